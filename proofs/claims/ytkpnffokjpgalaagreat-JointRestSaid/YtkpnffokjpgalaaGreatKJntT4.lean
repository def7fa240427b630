/- Layer 46: lies and Proper of the reference. -/
import Derived.Test.YtkpnffokjpgalaaGreatKJntS1
namespace Go.Proofs.YtkpnffokjpgalaaGreat
set_option linter.unusedVariables false
set_option linter.unusedSimpArgs false
open Go.RowKit Go.Sort
attribute [local go_sem ↓] Go.wp_at_zero Go.wp_at_succ

theorem dec_eqv (p q : Pt) : decide (p = q) = eqv p.1 p.2 q.1 q.2 := by
  apply Bool.eq_iff_iff.2
  rw [decide_eq_true_eq, eqv_iff]
  exact ⟨fun h => by rw [h]; exact ⟨rfl, rfl⟩, fun h => Prod.ext h.1 h.2⟩
theorem dot_small {a b c d : Int} (ha : sml a) (hb : sml b) (hc : sml c) (hd : sml d) : dotI a b c d = a * c + b * d := by
  have h1 := mul_sml ha hc
  have h2 := mul_sml hb hd
  unfold dotI wadd wmul wrap64
  omega
set_option maxRecDepth 100000 in
set_option maxHeartbeats 16000000 in
theorem lies_any (s g : SegP) (hs : IsSegN s) (w : World) : Gives Tryz.prog 73 #[sgv g, sgv s] w (.bool (alongB s g)) := by
  apply Gives.ret
  rw [← lies_along hs]
  have O1 := refOn_any s g.1.1 g.1.2
  have O2 := refOn_any s g.2.1 g.2.2
  have S1 := refSub_any g.2.1 g.2.2 g.1.1 g.1.2
  have S2 := refSub_any s.2.1 s.2.2 s.1.1 s.1.2
  have DT : onB s g.1 = true → onB s g.2 = true → dotI (wsub g.2.1 g.1.1) (wsub g.2.2 g.1.2) (wsub s.2.1 s.1.1) (wsub s.2.2 s.1.2) = (g.2.1 - g.1.1) * (s.2.1 - s.1.1) + (g.2.2 - g.1.2) * (s.2.2 - s.1.2) := fun h1 h2 => by
    obtain ⟨a1, a2, a3, a4⟩ := sub_sml (onB_near hs h1) (onB_near hs h2)
    obtain ⟨b1, b2, b3, b4⟩ := sub_sml hs.2.1 hs.2.2
    rw [a1, a2, b1, b2]
    exact dot_small a3 a4 b3 b4
  have D := refDot_any (wsub g.2.1 g.1.1) (wsub g.2.2 g.1.2) (wsub s.2.1 s.1.1) (wsub s.2.2 s.1.2)
  unfold liesB
  rw [dec_eqv, dec_eqv, dec_eqv, dec_eqv]
  change ∀ w, Gives _ _ _ w (.bool (onB s g.1)) at O1
  change ∀ w, Gives _ _ _ w (.bool (onB s g.2)) at O2
  generalize onB s g.1 = o1 at *
  generalize onB s g.2 = o2 at *
  generalize (g.2.1 - g.1.1) * (s.2.1 - s.1.1) + (g.2.2 - g.1.2) * (s.2.2 - s.1.2) = dt at *
  generalize dotI (wsub g.2.1 g.1.1) (wsub g.2.2 g.1.2) (wsub s.2.1 s.1.1) (wsub s.2.2 s.1.2) = dd at *
  generalize wsub g.2.1 g.1.1 = u1 at *
  generalize wsub g.2.2 g.1.2 = u2 at *
  generalize wsub s.2.1 s.1.1 = u3 at *
  generalize wsub s.2.2 s.1.2 = u4 at *
  clear hs
  obtain ⟨⟨ax, ay⟩, bx, by'⟩ := s
  obtain ⟨⟨gx, gy⟩, hx, hy⟩ := g
  simp only at O1 O2 S1 S2
  change ∀ w, Gives _ _ #[sg ax ay bx by', vv gx gy] w _ at O1
  change ∀ w, Gives _ _ #[sg ax ay bx by', vv hx hy] w _ at O2
  change Calls _ _ #[sg gx gy hx hy, sg ax ay bx by'] _ _
  simp only
  cases o1
  · clear O2 S1 S2 D DT
    go_enter Tryz.func73, Tryz.ntmps73
    go_wp2_with fail
    refine (O1 _).calls.mono ?_
    rintro e _ ⟨rfl, x1, rfl⟩
    go_wp2_with fail
    go_returns
    exact ⟨rfl, by (repeat (first | (with_reducible exact LaterOf.refl _) | (with_reducible refine LaterOf.alloc ?_ _) | (with_reducible refine LaterOf.drew ?_) | (with_reducible refine LaterOf.drewN ?_ _) | (with_reducible refine LaterOf.later ?_ _) | (with_reducible refine LaterOf.setCell ?_ (by first | exact Nat.le_refl _ | (simp; done) | omega | (simp; omega)) _)))⟩
  cases o2
  · clear S1 S2 D DT
    go_enter Tryz.func73, Tryz.ntmps73
    go_wp2_with fail
    refine (O1 _).calls.mono ?_
    rintro e _ ⟨rfl, x1, rfl⟩
    go_wp2_with fail
    refine (O2 _).calls.mono ?_
    rintro e _ ⟨rfl, x2, rfl⟩
    go_wp2_with fail
    go_returns
    exact ⟨rfl, by (repeat (first | (with_reducible exact LaterOf.refl _) | (with_reducible refine LaterOf.alloc ?_ _) | (with_reducible refine LaterOf.drew ?_) | (with_reducible refine LaterOf.drewN ?_ _) | (with_reducible refine LaterOf.later ?_ _) | (with_reducible refine LaterOf.setCell ?_ (by first | exact Nat.le_refl _ | (simp; done) | omega | (simp; omega)) _)))⟩
  obtain rfl := DT rfl rfl
  clear DT
  cases hq1 : eqv gx gy ax ay <;> cases hq2 : eqv hx hy ax ay <;> cases hq3 : eqv gx gy bx by' <;> cases hq4 : eqv hx hy bx by' <;>
  · go_enter Tryz.func73, Tryz.ntmps73
    go_wp2_with fail
    refine (O1 _).calls.mono ?_
    rintro e _ ⟨rfl, x1, rfl⟩
    go_wp2_with fail
    refine (O2 _).calls.mono ?_
    rintro e _ ⟨rfl, x2, rfl⟩
    go_wp2_with fail
    (try (refine region_later (by kernel_rfl) (by kernel_rfl) ?_
          repeat (go_big_quiet_step ((first | (with_reducible refine Gives.later (S1 _)) | (with_reducible refine Gives.later (S2 _)) | (with_reducible refine Gives.later (D _)))))
          refine wpQuiet_nil ?_
          rintro _ ⟨x3, rfl⟩
          go_wp2_with fail))
    go_returns
    exact ⟨by first | rfl | simp, by (repeat (first | (with_reducible exact LaterOf.refl _) | (with_reducible refine LaterOf.alloc ?_ _) | (with_reducible refine LaterOf.drew ?_) | (with_reducible refine LaterOf.drewN ?_ _) | (with_reducible refine LaterOf.later ?_ _) | (with_reducible refine LaterOf.setCell ?_ (by first | exact Nat.le_refl _ | (simp; done) | omega | (simp; omega)) _)))⟩
end Go.Proofs.YtkpnffokjpgalaaGreat
/- Layer 46: Proper and next of the reference. -/
namespace Go.Proofs.YtkpnffokjpgalaaGreat
set_option linter.unusedVariables false
set_option linter.unusedSimpArgs false
open Go.RowKit Go.Sort
attribute [local go_sem ↓] Go.wp_at_zero Go.wp_at_succ

theorem any_dropT (q : SegP → Bool) {l : List SegP} {k : Nat} (h : k < l.length) : (l.drop k).any q = (q l[k] || (l.drop (k + 1)).any q) := by
  rw [List.drop_eq_getElem_cons h, List.any_cons]
set_option maxRecDepth 100000 in
set_option maxHeartbeats 16000000 in
theorem refProper_any (A : Option Addr) (c : Nat) (r : List (Int × Int)) (gA : Option Addr) (gc : Nat) (G : List SegP) (w : World) (h : IsVecs w A c r) (hok : okB r = true) (hG : IsSegs w gA gc G) (hGl : G.length ≤ 100000) :
    Yields Tryz.prog 29 #[.slice A r.length c, .slice gA G.length gc] w (.bool (properB (edgesV r) G)) := by
  apply Yields.ret
  have hk := okB_iff.1 hok
  have ED := fun W (hW : SinceOf w W) => refEdges_any A c r W (h.of hW) (by have := hk.most; omega)
  have hE := (okB_edgeN hok).2
  have hEl := okB_len40 hok
  have hpi := proper_iff hok G
  have H := Lib.hid hG
  clear h hG hk hok
  obtain ⟨res, hres⟩ : ∃ b, b = properB (edgesV r) G := ⟨_, rfl⟩
  rw [← hres] at hpi ⊢
  generalize edgesV r = E at *
  have HE := Lib.hid (And.intro hE hpi)
  obtain ⟨hE3, hE40⟩ := hEl
  clear hE hpi hres
  go_enter Tryz.func29, Tryz.ntmps29
  go_wp2_with fail
  refine (ED _ (by (repeat (first | (with_reducible exact SinceOf.refl _) | (with_reducible assumption) | (with_reducible refine SinceOf.alloc ?_ _) | (with_reducible refine SinceOf.drew ?_) | (with_reducible refine SinceOf.drewN ?_ _) | (with_reducible refine SinceOf.later ?_ _) | (with_reducible refine SinceOf.further ?_ _) | (with_reducible refine SinceOf.setCell ?_ (by first | exact Nat.le_refl _ | (simp; done) | omega | (simp; omega)) _))))).mono ?_
  rintro e _ ⟨A8, c8, rfl, ho8, ⟨x3, rfl⟩⟩
  have H8 := Lib.hid (ho8.isRow encE_len)
  have hS3 : SinceOf w x3.wd := by (repeat (first | (with_reducible exact SinceOf.refl _) | (with_reducible assumption) | (with_reducible refine SinceOf.alloc ?_ _) | (with_reducible refine SinceOf.drew ?_) | (with_reducible refine SinceOf.drewN ?_ _) | (with_reducible refine SinceOf.later ?_ _) | (with_reducible refine SinceOf.further ?_ _) | (with_reducible refine SinceOf.setCell ?_ (by first | exact Nat.le_refl _ | (simp; done) | omega | (simp; omega)) _)))
  have H3 := Lib.hid hS3
  clear ED ho8 hS3
  go_wp2_with fail
  go_loopg [6] G.length (fun gas s6 wr => ∃ i : Nat, i ≤ G.length ∧ G.length - i ≤ gas ∧ s6 = .int .i64 i ∧ (∀ m (hm : m < G.length), m < i → E.any (fun s => alongB s G[m]) = true ∧ ∀ k (hk : k < m), meetI G[m] G[k] = 0) ∧ SinceOf x3.wd wr)
  case atStart => exact ⟨0, by omega, by omega, rfl, fun m hm h => by omega, by (repeat (first | (with_reducible exact SinceOf.refl _) | (with_reducible assumption) | (with_reducible refine SinceOf.alloc ?_ _) | (with_reducible refine SinceOf.drew ?_) | (with_reducible refine SinceOf.drewN ?_ _) | (with_reducible refine SinceOf.later ?_ _) | (with_reducible refine SinceOf.further ?_ _) | (with_reducible refine SinceOf.setCell ?_ (by first | exact Nat.le_refl _ | (simp; done) | omega | (simp; omega)) _)))⟩
  case round =>
    obtain ⟨i, hi, hgas, rfl, hall, ⟨z, rfl⟩⟩ := hrel
    by_cases hlt : i < G.length
    · have HA := Lib.hid hall
      clear hall
      obtain ⟨y, hy⟩ : ∃ y, y = G[i] := ⟨_, rfl⟩
      have HY := Lib.hid hy
      clear hy
      go_wp2_with fail
      go_loopg [7, 8] E.length (fun gas2 s7 s8 wr => ∃ (k : Nat) (b : Bool), k ≤ E.length ∧ E.length - k ≤ gas2 ∧ s7 = .bool b ∧ s8 = .int .i64 k ∧ (b || (E.drop k).any fun s => alongB s y) = (E.any fun s => alongB s y) ∧ SinceOf z.wd wr)
      case atStart => exact ⟨0, false, by omega, by omega, rfl, rfl, by simp, by (repeat (first | (with_reducible exact SinceOf.refl _) | (with_reducible assumption) | (with_reducible refine SinceOf.alloc ?_ _) | (with_reducible refine SinceOf.drew ?_) | (with_reducible refine SinceOf.drewN ?_ _) | (with_reducible refine SinceOf.later ?_ _) | (with_reducible refine SinceOf.further ?_ _) | (with_reducible refine SinceOf.setCell ?_ (by first | exact Nat.le_refl _ | (simp; done) | omega | (simp; omega)) _)))⟩
      case round =>
        obtain ⟨k, b, hk, hgas2, rfl, rfl, hfin, ⟨v, rfl⟩⟩ := hrel
        by_cases hlt2 : k < E.length
        · have hv0 := H8.out.of (w' := v.wd) (by (repeat (first | (with_reducible exact SinceOf.refl _) | (with_reducible assumption) | (with_reducible refine SinceOf.alloc ?_ _) | (with_reducible refine SinceOf.drew ?_) | (with_reducible refine SinceOf.drewN ?_ _) | (with_reducible refine SinceOf.later ?_ _) | (with_reducible refine SinceOf.further ?_ _) | (with_reducible refine SinceOf.setCell ?_ (by first | exact Nat.le_refl _ | (simp; done) | omega | (simp; omega)) _))))
          obtain ⟨g2, off2, rfl, hr2⟩ := hv0.at_ (by omega)
          have hO2 := hr2.there
          have a0 := hr2.e0 k hlt2
          have a1 := hr2.e1 k hlt2
          have a2 := hr2.e2 k hlt2
          have a3 := hr2.e3 k hlt2
          have hg0 := H.out.of (w' := v.wd) (H3.out.trans (by (repeat (first | (with_reducible exact SinceOf.refl _) | (with_reducible assumption) | (with_reducible refine SinceOf.alloc ?_ _) | (with_reducible refine SinceOf.drew ?_) | (with_reducible refine SinceOf.drewN ?_ _) | (with_reducible refine SinceOf.later ?_ _) | (with_reducible refine SinceOf.further ?_ _) | (with_reducible refine SinceOf.setCell ?_ (by first | exact Nat.le_refl _ | (simp; done) | omega | (simp; omega)) _)))))
          obtain ⟨g3, off3, rfl, hr3⟩ := hg0.at_ (by omega)
          have hO3 := hr3.there
          have d0 := hr3.e0 i hlt
          have d1 := hr3.e1 i hlt
          have d2 := hr3.e2 i hlt
          have d3 := hr3.e3 i hlt
          rw [← HY.out] at d0 d1 d2 d3
          have L := lies_any E[k] y (HE.out.1 _ (List.getElem_mem hlt2))
          rw [any_dropT _ hlt2] at hfin
          obtain ⟨s, hs⟩ : ∃ s, s = E[k] := ⟨_, rfl⟩
          rw [← hs] at a0 a1 a2 a3 L hfin
          generalize alongB s y = ob at *
          have HF := Lib.hid hfin
          obtain ⟨⟨ax, ay⟩, bx, by'⟩ := s
          obtain ⟨⟨yx, yy⟩, zx, zy⟩ := y
          simp only at a0 a1 a2 a3 d0 d1 d2 d3
          change ∀ w, Gives _ _ #[sg yx yy zx zy, sg ax ay bx by'] w _ at L
          have b1 : (0 : Int) ≤ i := by omega
          have b2 : (i : Int) < G.length := by omega
          have b3 : (0 : Int) ≤ k := by omega
          have b4 : (k : Int) < E.length := by omega
          clear hfin hr2 hv0 hs hr3 hg0
          cases b
          · go_wp2_with fail
            refine region_since (by kernel_rfl) (by kernel_rfl) ?_
            repeat (go_big_quiet_step ((with_reducible refine Yields.since (L _).yields)))
            refine wpQuiet_nil ?_
            rintro _ ⟨y1, rfl⟩
            go_wp2_with fail
            go_roundg (E.length - (k + 1))
            case measure => omega
            case rel => exact ⟨k + 1, ob, hlt2, Nat.le_refl _, rfl, by go_num, by simpa using HF.out, by (repeat (first | (with_reducible exact SinceOf.refl _) | (with_reducible assumption) | (with_reducible refine SinceOf.alloc ?_ _) | (with_reducible refine SinceOf.drew ?_) | (with_reducible refine SinceOf.drewN ?_ _) | (with_reducible refine SinceOf.later ?_ _) | (with_reducible refine SinceOf.further ?_ _) | (with_reducible refine SinceOf.setCell ?_ (by first | exact Nat.le_refl _ | (simp; done) | omega | (simp; omega)) _)))⟩
          · go_wp2_with fail
            refine region_since (by kernel_rfl) (by kernel_rfl) ?_
            repeat (go_big_quiet_step (fail))
            refine wpQuiet_nil ?_
            rintro _ ⟨y1, rfl⟩
            go_wp2_with fail
            go_roundg (E.length - (k + 1))
            case measure => omega
            case rel => exact ⟨k + 1, true, hlt2, Nat.le_refl _, rfl, by go_num, by simpa using HF.out, by (repeat (first | (with_reducible exact SinceOf.refl _) | (with_reducible assumption) | (with_reducible refine SinceOf.alloc ?_ _) | (with_reducible refine SinceOf.drew ?_) | (with_reducible refine SinceOf.drewN ?_ _) | (with_reducible refine SinceOf.later ?_ _) | (with_reducible refine SinceOf.further ?_ _) | (with_reducible refine SinceOf.setCell ?_ (by first | exact Nat.le_refl _ | (simp; done) | omega | (simp; omega)) _)))⟩
        · obtain rfl : k = E.length := by omega
          rw [List.drop_length, List.any_nil, Bool.or_false] at hfin
          have HF := Lib.hid hfin
          clear hfin
          cases b
          · obtain rfl : res = false := by
              rw [← Bool.not_eq_true]
              intro q
              have := (HE.out.2.2 q) i hlt
              rw [← HY.out, ← HF.out] at this
              exact Bool.false_ne_true this.1
            go_wp2_with fail
            go_returns
            exact ⟨rfl, H3.out.trans (by (repeat (first | (with_reducible exact SinceOf.refl _) | (with_reducible assumption) | (with_reducible refine SinceOf.alloc ?_ _) | (with_reducible refine SinceOf.drew ?_) | (with_reducible refine SinceOf.drewN ?_ _) | (with_reducible refine SinceOf.later ?_ _) | (with_reducible refine SinceOf.further ?_ _) | (with_reducible refine SinceOf.setCell ?_ (by first | exact Nat.le_refl _ | (simp; done) | omega | (simp; omega)) _))))⟩
          · go_wp2_with fail
            go_loopg [9] i (fun gas s9 wr => ∃ m : Nat, m ≤ i ∧ i - m ≤ gas ∧ s9 = .int .i64 m ∧ (∀ k (hk : k < m) (hk2 : k < G.length), meetI y G[k] = 0) ∧ SinceOf v.wd wr)
            case atStart => exact ⟨0, by omega, by omega, rfl, fun k hk => by omega, by (repeat (first | (with_reducible exact SinceOf.refl _) | (with_reducible assumption) | (with_reducible refine SinceOf.alloc ?_ _) | (with_reducible refine SinceOf.drew ?_) | (with_reducible refine SinceOf.drewN ?_ _) | (with_reducible refine SinceOf.later ?_ _) | (with_reducible refine SinceOf.further ?_ _) | (with_reducible refine SinceOf.setCell ?_ (by first | exact Nat.le_refl _ | (simp; done) | omega | (simp; omega)) _)))⟩
            case round =>
              obtain ⟨m, hm, hgas3, rfl, hmt, ⟨u, rfl⟩⟩ := hrel
              by_cases hlt3 : m < i
              · have hg0 := H.out.of (w' := u.wd) (H3.out.trans (by (repeat (first | (with_reducible exact SinceOf.refl _) | (with_reducible assumption) | (with_reducible refine SinceOf.alloc ?_ _) | (with_reducible refine SinceOf.drew ?_) | (with_reducible refine SinceOf.drewN ?_ _) | (with_reducible refine SinceOf.later ?_ _) | (with_reducible refine SinceOf.further ?_ _) | (with_reducible refine SinceOf.setCell ?_ (by first | exact Nat.le_refl _ | (simp; done) | omega | (simp; omega)) _)))))
                obtain ⟨g3, off3, rfl, hr3⟩ := hg0.at_ (by omega)
                have hO3 := hr3.there
                have d0 := hr3.e0 i hlt
                have d1 := hr3.e1 i hlt
                have d2 := hr3.e2 i hlt
                have d3 := hr3.e3 i hlt
                rw [← HY.out] at d0 d1 d2 d3
                have c0 := hr3.e0 m (by omega)
                have c1 := hr3.e1 m (by omega)
                have c2 := hr3.e2 m (by omega)
                have c3 := hr3.e3 m (by omega)
                obtain ⟨t, ht⟩ : ∃ t, t = G[m]'(by omega) := ⟨_, rfl⟩
                rw [← ht] at c0 c1 c2 c3
                have MT := refMeet_any y t
                obtain ⟨mi, hmi⟩ : ∃ mi, mi = meetI y t := ⟨_, rfl⟩
                rw [← hmi] at MT
                have HM := Lib.hid (And.intro hmt (And.intro ht hmi))
                obtain ⟨⟨yx, yy⟩, zx, zy⟩ := y
                obtain ⟨⟨tx, ty⟩, sx, sy⟩ := t
                simp only at c0 c1 c2 c3 d0 d1 d2 d3
                change ∀ w, Yields _ _ #[sg yx yy zx zy, sg tx ty sx sy] w _ at MT
                have b1 : (0 : Int) ≤ i := by omega
                have b2 : (i : Int) < G.length := by omega
                have b3 : (0 : Int) ≤ m := by omega
                have b4 : (m : Int) < G.length := by omega
                clear hr3 hg0 hmt ht hmi
                by_cases h0 : mi = 0
                · have hb : (mi != 0) = false := by simpa using h0
                  have H0 := Lib.hid h0
                  clear h0
                  go_wp2_with fail
                  refine region_since (by kernel_rfl) (by kernel_rfl) ?_
                  repeat (go_big_quiet_step ((with_reducible refine Yields.since (MT _))))
                  refine wpQuiet_nil ?_
                  rintro _ ⟨y1, rfl⟩
                  go_wp2_with fail
                  go_roundg (i - (m + 1))
                  case measure => omega
                  case rel => exact ⟨m + 1, hlt3, Nat.le_refl _, by go_num, fun k hk hk2 => by
                    by_cases e : k = m
                    · subst e; rw [← HM.out.2.1, ← HM.out.2.2, H0.out]
                    · exact HM.out.1 k (by omega) hk2, by (repeat (first | (with_reducible exact SinceOf.refl _) | (with_reducible assumption) | (with_reducible refine SinceOf.alloc ?_ _) | (with_reducible refine SinceOf.drew ?_) | (with_reducible refine SinceOf.drewN ?_ _) | (with_reducible refine SinceOf.later ?_ _) | (with_reducible refine SinceOf.further ?_ _) | (with_reducible refine SinceOf.setCell ?_ (by first | exact Nat.le_refl _ | (simp; done) | omega | (simp; omega)) _)))⟩
                · have hb : (mi != 0) = true := by simpa using h0
                  obtain rfl : res = false := by
                    rw [← Bool.not_eq_true]
                    intro q
                    have := ((HE.out.2.2 q) i hlt).2 m hlt3
                    rw [← HY.out, ← HM.out.2.1, ← HM.out.2.2] at this
                    exact h0 this
                  clear h0
                  go_wp2_with fail
                  refine region_since (by kernel_rfl) (by kernel_rfl) ?_
                  repeat (go_big_quiet_step ((with_reducible refine Yields.since (MT _))))
                  refine wpQuiet_nil ?_
                  rintro _ ⟨y1, rfl⟩
                  go_wp2_with fail
                  go_returns
                  exact ⟨rfl, H3.out.trans (by (repeat (first | (with_reducible exact SinceOf.refl _) | (with_reducible assumption) | (with_reducible refine SinceOf.alloc ?_ _) | (with_reducible refine SinceOf.drew ?_) | (with_reducible refine SinceOf.drewN ?_ _) | (with_reducible refine SinceOf.later ?_ _) | (with_reducible refine SinceOf.further ?_ _) | (with_reducible refine SinceOf.setCell ?_ (by first | exact Nat.le_refl _ | (simp; done) | omega | (simp; omega)) _))))⟩
              · obtain rfl : m = i := by omega
                have HM := Lib.hid hmt
                clear hmt
                go_wp2_with fail
                go_roundg (G.length - (m + 1))
                case measure => omega
                case rel => exact ⟨m + 1, hlt, Nat.le_refl _, by go_num, fun q hq hqm => by
                  by_cases e : q = m
                  · subst e
                    rw [← HY.out]
                    exact ⟨HF.out.symm, fun k hk => HM.out k hk (by omega)⟩
                  · exact HA.out q hq (by omega), by (repeat (first | (with_reducible exact SinceOf.refl _) | (with_reducible assumption) | (with_reducible refine SinceOf.alloc ?_ _) | (with_reducible refine SinceOf.drew ?_) | (with_reducible refine SinceOf.drewN ?_ _) | (with_reducible refine SinceOf.later ?_ _) | (with_reducible refine SinceOf.further ?_ _) | (with_reducible refine SinceOf.setCell ?_ (by first | exact Nat.le_refl _ | (simp; done) | omega | (simp; omega)) _)))⟩
    · obtain rfl : i = G.length := by omega
      obtain rfl : res = true := HE.out.2.1 fun m hm => hall m hm hm
      clear hall
      go_wp2_with fail
      go_returns
      exact ⟨rfl, H3.out.trans (by (repeat (first | (with_reducible exact SinceOf.refl _) | (with_reducible assumption) | (with_reducible refine SinceOf.alloc ?_ _) | (with_reducible refine SinceOf.drew ?_) | (with_reducible refine SinceOf.drewN ?_ _) | (with_reducible refine SinceOf.later ?_ _) | (with_reducible refine SinceOf.further ?_ _) | (with_reducible refine SinceOf.setCell ?_ (by first | exact Nat.le_refl _ | (simp; done) | omega | (simp; omega)) _))))⟩
end Go.Proofs.YtkpnffokjpgalaaGreat
