/- Layer 46: lies and Proper of the reference. -/
import Derived.Test.YtkpnffokjpgalaaGreatKJntS1
namespace Go.Proofs.YtkpnffokjpgalaaGreat
set_option linter.unusedVariables false
set_option linter.unusedSimpArgs false
open Go.RowKit Go.Sort
attribute [local go_sem ↓] Go.wp_at_zero Go.wp_at_succ

theorem dec_eqv (p q : Pt) : decide (p = q) = eqv p.1 p.2 q.1 q.2 := by
  apply Bool.eq_iff_iff.2
  rw [decide_eq_true_eq, eqv_iff]
  exact ⟨fun h => by rw [h]; exact ⟨rfl, rfl⟩, fun h => Prod.ext h.1 h.2⟩
theorem dot_small {a b c d : Int} (ha : sml a) (hb : sml b) (hc : sml c) (hd : sml d) : dotI a b c d = a * c + b * d := by
  have h1 := mul_sml ha hc
  have h2 := mul_sml hb hd
  unfold dotI wadd wmul wrap64
  omega
set_option maxRecDepth 100000 in
set_option maxHeartbeats 16000000 in
theorem lies_any (s g : SegP) (hs : IsSegN s) (w : World) : Gives Tryz.prog 73 #[sgv g, sgv s] w (.bool (alongB s g)) := by
  apply Gives.ret
  rw [← lies_along hs]
  have O1 := refOn_any s g.1.1 g.1.2
  have O2 := refOn_any s g.2.1 g.2.2
  have S1 := refSub_any g.2.1 g.2.2 g.1.1 g.1.2
  have S2 := refSub_any s.2.1 s.2.2 s.1.1 s.1.2
  have DT : onB s g.1 = true → onB s g.2 = true → dotI (wsub g.2.1 g.1.1) (wsub g.2.2 g.1.2) (wsub s.2.1 s.1.1) (wsub s.2.2 s.1.2) = (g.2.1 - g.1.1) * (s.2.1 - s.1.1) + (g.2.2 - g.1.2) * (s.2.2 - s.1.2) := fun h1 h2 => by
    obtain ⟨a1, a2, a3, a4⟩ := sub_sml (onB_near hs h1) (onB_near hs h2)
    obtain ⟨b1, b2, b3, b4⟩ := sub_sml hs.2.1 hs.2.2
    rw [a1, a2, b1, b2]
    exact dot_small a3 a4 b3 b4
  have D := refDot_any (wsub g.2.1 g.1.1) (wsub g.2.2 g.1.2) (wsub s.2.1 s.1.1) (wsub s.2.2 s.1.2)
  unfold liesB
  rw [dec_eqv, dec_eqv, dec_eqv, dec_eqv]
  change ∀ w, Gives _ _ _ w (.bool (onB s g.1)) at O1
  change ∀ w, Gives _ _ _ w (.bool (onB s g.2)) at O2
  generalize onB s g.1 = o1 at *
  generalize onB s g.2 = o2 at *
  generalize (g.2.1 - g.1.1) * (s.2.1 - s.1.1) + (g.2.2 - g.1.2) * (s.2.2 - s.1.2) = dt at *
  generalize dotI (wsub g.2.1 g.1.1) (wsub g.2.2 g.1.2) (wsub s.2.1 s.1.1) (wsub s.2.2 s.1.2) = dd at *
  generalize wsub g.2.1 g.1.1 = u1 at *
  generalize wsub g.2.2 g.1.2 = u2 at *
  generalize wsub s.2.1 s.1.1 = u3 at *
  generalize wsub s.2.2 s.1.2 = u4 at *
  clear hs
  obtain ⟨⟨ax, ay⟩, bx, by'⟩ := s
  obtain ⟨⟨gx, gy⟩, hx, hy⟩ := g
  simp only at O1 O2 S1 S2
  change ∀ w, Gives _ _ #[sg ax ay bx by', vv gx gy] w _ at O1
  change ∀ w, Gives _ _ #[sg ax ay bx by', vv hx hy] w _ at O2
  change Calls _ _ #[sg gx gy hx hy, sg ax ay bx by'] _ _
  simp only
  cases o1
  · clear O2 S1 S2 D DT
    go_enter Tryz.func73, Tryz.ntmps73
    go_wp2_with fail
    refine (O1 _).calls.mono ?_
    rintro e _ ⟨rfl, x1, rfl⟩
    go_wp2_with fail
    go_returns
    exact ⟨rfl, by (repeat (first | (with_reducible exact LaterOf.refl _) | (with_reducible refine LaterOf.alloc ?_ _) | (with_reducible refine LaterOf.drew ?_) | (with_reducible refine LaterOf.drewN ?_ _) | (with_reducible refine LaterOf.later ?_ _) | (with_reducible refine LaterOf.setCell ?_ (by first | exact Nat.le_refl _ | (simp; done) | omega | (simp; omega)) _)))⟩
  cases o2
  · clear S1 S2 D DT
    go_enter Tryz.func73, Tryz.ntmps73
    go_wp2_with fail
    refine (O1 _).calls.mono ?_
    rintro e _ ⟨rfl, x1, rfl⟩
    go_wp2_with fail
    refine (O2 _).calls.mono ?_
    rintro e _ ⟨rfl, x2, rfl⟩
    go_wp2_with fail
    go_returns
    exact ⟨rfl, by (repeat (first | (with_reducible exact LaterOf.refl _) | (with_reducible refine LaterOf.alloc ?_ _) | (with_reducible refine LaterOf.drew ?_) | (with_reducible refine LaterOf.drewN ?_ _) | (with_reducible refine LaterOf.later ?_ _) | (with_reducible refine LaterOf.setCell ?_ (by first | exact Nat.le_refl _ | (simp; done) | omega | (simp; omega)) _)))⟩
  obtain rfl := DT rfl rfl
  clear DT
  cases hq1 : eqv gx gy ax ay <;> cases hq2 : eqv hx hy ax ay <;> cases hq3 : eqv gx gy bx by' <;> cases hq4 : eqv hx hy bx by' <;>
  · go_enter Tryz.func73, Tryz.ntmps73
    go_wp2_with fail
    refine (O1 _).calls.mono ?_
    rintro e _ ⟨rfl, x1, rfl⟩
    go_wp2_with fail
    refine (O2 _).calls.mono ?_
    rintro e _ ⟨rfl, x2, rfl⟩
    go_wp2_with fail
    (try (refine region_later (by kernel_rfl) (by kernel_rfl) ?_
          repeat (go_big_quiet_step ((first | (with_reducible refine Gives.later (S1 _)) | (with_reducible refine Gives.later (S2 _)) | (with_reducible refine Gives.later (D _)))))
          refine wpQuiet_nil ?_
          rintro _ ⟨x3, rfl⟩
          go_wp2_with fail))
    go_returns
    exact ⟨by first | rfl | simp, by (repeat (first | (with_reducible exact LaterOf.refl _) | (with_reducible refine LaterOf.alloc ?_ _) | (with_reducible refine LaterOf.drew ?_) | (with_reducible refine LaterOf.drewN ?_ _) | (with_reducible refine LaterOf.later ?_ _) | (with_reducible refine LaterOf.setCell ?_ (by first | exact Nat.le_refl _ | (simp; done) | omega | (simp; omega)) _)))⟩
end Go.Proofs.YtkpnffokjpgalaaGreat
/- Layer 46: Proper and next of the reference. -/
namespace Go.Proofs.YtkpnffokjpgalaaGreat
set_option linter.unusedVariables false
set_option linter.unusedSimpArgs false
open Go.RowKit Go.Sort
attribute [local go_sem ↓] Go.wp_at_zero Go.wp_at_succ

theorem any_dropT (q : SegP → Bool) {l : List SegP} {k : Nat} (h : k < l.length) : (l.drop k).any q = (q l[k] || (l.drop (k + 1)).any q) := by
  rw [List.drop_eq_getElem_cons h, List.any_cons]
set_option maxRecDepth 100000 in
set_option maxHeartbeats 16000000 in
theorem refProper_any (A : Option Addr) (c : Nat) (r : List (Int × Int)) (gA : Option Addr) (gc : Nat) (G : List SegP) (w : World) (h : IsVecs w A c r) (hok : okB r = true) (hG : IsSegs w gA gc G) (hGl : G.length ≤ 100000) :
    Yields Tryz.prog 29 #[.slice A r.length c, .slice gA G.length gc] w (.bool (properB (edgesV r) G)) := by
  apply Yields.ret
  have hk := okB_iff.1 hok
  have ED := fun W (hW : SinceOf w W) => refEdges_any A c r W (h.of hW) (by have := hk.most; omega)
  have hE := (okB_edgeN hok).2
  have hEl := okB_len40 hok
  have hpi := proper_iff hok G
  have H := Lib.hid hG
  clear h hG hk hok
  obtain ⟨res, hres⟩ : ∃ b, b = properB (edgesV r) G := ⟨_, rfl⟩
  rw [← hres] at hpi ⊢
  generalize edgesV r = E at *
  have HE := Lib.hid (And.intro hE hpi)
  obtain ⟨hE3, hE40⟩ := hEl
  clear hE hpi hres
  go_enter Tryz.func29, Tryz.ntmps29
  go_wp2_with fail
  refine (ED _ (by (repeat (first | (with_reducible exact SinceOf.refl _) | (with_reducible assumption) | (with_reducible refine SinceOf.alloc ?_ _) | (with_reducible refine SinceOf.drew ?_) | (with_reducible refine SinceOf.drewN ?_ _) | (with_reducible refine SinceOf.later ?_ _) | (with_reducible refine SinceOf.further ?_ _) | (with_reducible refine SinceOf.setCell ?_ (by first | exact Nat.le_refl _ | (simp; done) | omega | (simp; omega)) _))))).mono ?_
  rintro e _ ⟨A8, c8, rfl, ho8, ⟨x3, rfl⟩⟩
  have H8 := Lib.hid (ho8.isRow encE_len)
  have hS3 : SinceOf w x3.wd := by (repeat (first | (with_reducible exact SinceOf.refl _) | (with_reducible assumption) | (with_reducible refine SinceOf.alloc ?_ _) | (with_reducible refine SinceOf.drew ?_) | (with_reducible refine SinceOf.drewN ?_ _) | (with_reducible refine SinceOf.later ?_ _) | (with_reducible refine SinceOf.further ?_ _) | (with_reducible refine SinceOf.setCell ?_ (by first | exact Nat.le_refl _ | (simp; done) | omega | (simp; omega)) _)))
  have H3 := Lib.hid hS3
  clear ED ho8 hS3
  go_wp2_with fail
  go_loopg [6] G.length (fun gas s6 wr => ∃ i : Nat, i ≤ G.length ∧ G.length - i ≤ gas ∧ s6 = .int .i64 i ∧ (∀ m (hm : m < G.length), m < i → E.any (fun s => alongB s G[m]) = true ∧ ∀ k (hk : k < m), meetI G[m] G[k] = 0) ∧ SinceOf x3.wd wr)
  case atStart => exact ⟨0, by omega, by omega, rfl, fun m hm h => by omega, by (repeat (first | (with_reducible exact SinceOf.refl _) | (with_reducible assumption) | (with_reducible refine SinceOf.alloc ?_ _) | (with_reducible refine SinceOf.drew ?_) | (with_reducible refine SinceOf.drewN ?_ _) | (with_reducible refine SinceOf.later ?_ _) | (with_reducible refine SinceOf.further ?_ _) | (with_reducible refine SinceOf.setCell ?_ (by first | exact Nat.le_refl _ | (simp; done) | omega | (simp; omega)) _)))⟩
  case round =>
    obtain ⟨i, hi, hgas, rfl, hall, ⟨z, rfl⟩⟩ := hrel
    by_cases hlt : i < G.length
    · have HA := Lib.hid hall
      clear hall
      obtain ⟨y, hy⟩ : ∃ y, y = G[i] := ⟨_, rfl⟩
      have HY := Lib.hid hy
      clear hy
      go_wp2_with fail
      go_loopg [7, 8] E.length (fun gas2 s7 s8 wr => ∃ (k : Nat) (b : Bool), k ≤ E.length ∧ E.length - k ≤ gas2 ∧ s7 = .bool b ∧ s8 = .int .i64 k ∧ (b || (E.drop k).any fun s => alongB s y) = (E.any fun s => alongB s y) ∧ SinceOf z.wd wr)
      case atStart => exact ⟨0, false, by omega, by omega, rfl, rfl, by simp, by (repeat (first | (with_reducible exact SinceOf.refl _) | (with_reducible assumption) | (with_reducible refine SinceOf.alloc ?_ _) | (with_reducible refine SinceOf.drew ?_) | (with_reducible refine SinceOf.drewN ?_ _) | (with_reducible refine SinceOf.later ?_ _) | (with_reducible refine SinceOf.further ?_ _) | (with_reducible refine SinceOf.setCell ?_ (by first | exact Nat.le_refl _ | (simp; done) | omega | (simp; omega)) _)))⟩
      case round =>
        obtain ⟨k, b, hk, hgas2, rfl, rfl, hfin, ⟨v, rfl⟩⟩ := hrel
        by_cases hlt2 : k < E.length
        · have hv0 := H8.out.of (w' := v.wd) (by (repeat (first | (with_reducible exact SinceOf.refl _) | (with_reducible assumption) | (with_reducible refine SinceOf.alloc ?_ _) | (with_reducible refine SinceOf.drew ?_) | (with_reducible refine SinceOf.drewN ?_ _) | (with_reducible refine SinceOf.later ?_ _) | (with_reducible refine SinceOf.further ?_ _) | (with_reducible refine SinceOf.setCell ?_ (by first | exact Nat.le_refl _ | (simp; done) | omega | (simp; omega)) _))))
          obtain ⟨g2, off2, rfl, hr2⟩ := hv0.at_ (by omega)
          have hO2 := hr2.there
          have a0 := hr2.e0 k hlt2
          have a1 := hr2.e1 k hlt2
          have a2 := hr2.e2 k hlt2
          have a3 := hr2.e3 k hlt2
          have hg0 := H.out.of (w' := v.wd) (H3.out.trans (by (repeat (first | (with_reducible exact SinceOf.refl _) | (with_reducible assumption) | (with_reducible refine SinceOf.alloc ?_ _) | (with_reducible refine SinceOf.drew ?_) | (with_reducible refine SinceOf.drewN ?_ _) | (with_reducible refine SinceOf.later ?_ _) | (with_reducible refine SinceOf.further ?_ _) | (with_reducible refine SinceOf.setCell ?_ (by first | exact Nat.le_refl _ | (simp; done) | omega | (simp; omega)) _)))))
          obtain ⟨g3, off3, rfl, hr3⟩ := hg0.at_ (by omega)
          have hO3 := hr3.there
          have d0 := hr3.e0 i hlt
          have d1 := hr3.e1 i hlt
          have d2 := hr3.e2 i hlt
          have d3 := hr3.e3 i hlt
          rw [← HY.out] at d0 d1 d2 d3
          have L := lies_any E[k] y (HE.out.1 _ (List.getElem_mem hlt2))
          rw [any_dropT _ hlt2] at hfin
          obtain ⟨s, hs⟩ : ∃ s, s = E[k] := ⟨_, rfl⟩
          rw [← hs] at a0 a1 a2 a3 L hfin
          generalize alongB s y = ob at *
          have HF := Lib.hid hfin
          obtain ⟨⟨ax, ay⟩, bx, by'⟩ := s
          obtain ⟨⟨yx, yy⟩, zx, zy⟩ := y
          simp only at a0 a1 a2 a3 d0 d1 d2 d3
          change ∀ w, Gives _ _ #[sg yx yy zx zy, sg ax ay bx by'] w _ at L
          have b1 : (0 : Int) ≤ i := by omega
          have b2 : (i : Int) < G.length := by omega
          have b3 : (0 : Int) ≤ k := by omega
          have b4 : (k : Int) < E.length := by omega
          clear hfin hr2 hv0 hs hr3 hg0
          cases b
          · go_wp2_with fail
            refine region_since (by kernel_rfl) (by kernel_rfl) ?_
            repeat (go_big_quiet_step ((with_reducible refine Yields.since (L _).yields)))
            refine wpQuiet_nil ?_
            rintro _ ⟨y1, rfl⟩
            go_wp2_with fail
            go_roundg (E.length - (k + 1))
            case measure => omega
            case rel => exact ⟨k + 1, ob, hlt2, Nat.le_refl _, rfl, by go_num, by simpa using HF.out, by (repeat (first | (with_reducible exact SinceOf.refl _) | (with_reducible assumption) | (with_reducible refine SinceOf.alloc ?_ _) | (with_reducible refine SinceOf.drew ?_) | (with_reducible refine SinceOf.drewN ?_ _) | (with_reducible refine SinceOf.later ?_ _) | (with_reducible refine SinceOf.further ?_ _) | (with_reducible refine SinceOf.setCell ?_ (by first | exact Nat.le_refl _ | (simp; done) | omega | (simp; omega)) _)))⟩
          · go_wp2_with fail
            refine region_since (by kernel_rfl) (by kernel_rfl) ?_
            repeat (go_big_quiet_step (fail))
            refine wpQuiet_nil ?_
            rintro _ ⟨y1, rfl⟩
            go_wp2_with fail
            go_roundg (E.length - (k + 1))
            case measure => omega
            case rel => exact ⟨k + 1, true, hlt2, Nat.le_refl _, rfl, by go_num, by simpa using HF.out, by (repeat (first | (with_reducible exact SinceOf.refl _) | (with_reducible assumption) | (with_reducible refine SinceOf.alloc ?_ _) | (with_reducible refine SinceOf.drew ?_) | (with_reducible refine SinceOf.drewN ?_ _) | (with_reducible refine SinceOf.later ?_ _) | (with_reducible refine SinceOf.further ?_ _) | (with_reducible refine SinceOf.setCell ?_ (by first | exact Nat.le_refl _ | (simp; done) | omega | (simp; omega)) _)))⟩
        · obtain rfl : k = E.length := by omega
          rw [List.drop_length, List.any_nil, Bool.or_false] at hfin
          have HF := Lib.hid hfin
          clear hfin
          cases b
          · obtain rfl : res = false := by
              rw [← Bool.not_eq_true]
              intro q
              have := (HE.out.2.2 q) i hlt
              rw [← HY.out, ← HF.out] at this
              exact Bool.false_ne_true this.1
            go_wp2_with fail
            go_returns
            exact ⟨rfl, H3.out.trans (by (repeat (first | (with_reducible exact SinceOf.refl _) | (with_reducible assumption) | (with_reducible refine SinceOf.alloc ?_ _) | (with_reducible refine SinceOf.drew ?_) | (with_reducible refine SinceOf.drewN ?_ _) | (with_reducible refine SinceOf.later ?_ _) | (with_reducible refine SinceOf.further ?_ _) | (with_reducible refine SinceOf.setCell ?_ (by first | exact Nat.le_refl _ | (simp; done) | omega | (simp; omega)) _))))⟩
          · go_wp2_with fail
            go_loopg [9] i (fun gas s9 wr => ∃ m : Nat, m ≤ i ∧ i - m ≤ gas ∧ s9 = .int .i64 m ∧ (∀ k (hk : k < m) (hk2 : k < G.length), meetI y G[k] = 0) ∧ SinceOf v.wd wr)
            case atStart => exact ⟨0, by omega, by omega, rfl, fun k hk => by omega, by (repeat (first | (with_reducible exact SinceOf.refl _) | (with_reducible assumption) | (with_reducible refine SinceOf.alloc ?_ _) | (with_reducible refine SinceOf.drew ?_) | (with_reducible refine SinceOf.drewN ?_ _) | (with_reducible refine SinceOf.later ?_ _) | (with_reducible refine SinceOf.further ?_ _) | (with_reducible refine SinceOf.setCell ?_ (by first | exact Nat.le_refl _ | (simp; done) | omega | (simp; omega)) _)))⟩
            case round =>
              obtain ⟨m, hm, hgas3, rfl, hmt, ⟨u, rfl⟩⟩ := hrel
              by_cases hlt3 : m < i
              · have hg0 := H.out.of (w' := u.wd) (H3.out.trans (by (repeat (first | (with_reducible exact SinceOf.refl _) | (with_reducible assumption) | (with_reducible refine SinceOf.alloc ?_ _) | (with_reducible refine SinceOf.drew ?_) | (with_reducible refine SinceOf.drewN ?_ _) | (with_reducible refine SinceOf.later ?_ _) | (with_reducible refine SinceOf.further ?_ _) | (with_reducible refine SinceOf.setCell ?_ (by first | exact Nat.le_refl _ | (simp; done) | omega | (simp; omega)) _)))))
                obtain ⟨g3, off3, rfl, hr3⟩ := hg0.at_ (by omega)
                have hO3 := hr3.there
                have d0 := hr3.e0 i hlt
                have d1 := hr3.e1 i hlt
                have d2 := hr3.e2 i hlt
                have d3 := hr3.e3 i hlt
                rw [← HY.out] at d0 d1 d2 d3
                have c0 := hr3.e0 m (by omega)
                have c1 := hr3.e1 m (by omega)
                have c2 := hr3.e2 m (by omega)
                have c3 := hr3.e3 m (by omega)
                obtain ⟨t, ht⟩ : ∃ t, t = G[m]'(by omega) := ⟨_, rfl⟩
                rw [← ht] at c0 c1 c2 c3
                have MT := refMeet_any y t
                obtain ⟨mi, hmi⟩ : ∃ mi, mi = meetI y t := ⟨_, rfl⟩
                rw [← hmi] at MT
                have HM := Lib.hid (And.intro hmt (And.intro ht hmi))
                obtain ⟨⟨yx, yy⟩, zx, zy⟩ := y
                obtain ⟨⟨tx, ty⟩, sx, sy⟩ := t
                simp only at c0 c1 c2 c3 d0 d1 d2 d3
                change ∀ w, Yields _ _ #[sg yx yy zx zy, sg tx ty sx sy] w _ at MT
                have b1 : (0 : Int) ≤ i := by omega
                have b2 : (i : Int) < G.length := by omega
                have b3 : (0 : Int) ≤ m := by omega
                have b4 : (m : Int) < G.length := by omega
                clear hr3 hg0 hmt ht hmi
                by_cases h0 : mi = 0
                · have hb : (mi != 0) = false := by simpa using h0
                  have H0 := Lib.hid h0
                  clear h0
                  go_wp2_with fail
                  refine region_since (by kernel_rfl) (by kernel_rfl) ?_
                  repeat (go_big_quiet_step ((with_reducible refine Yields.since (MT _))))
                  refine wpQuiet_nil ?_
                  rintro _ ⟨y1, rfl⟩
                  go_wp2_with fail
                  go_roundg (i - (m + 1))
                  case measure => omega
                  case rel => exact ⟨m + 1, hlt3, Nat.le_refl _, by go_num, fun k hk hk2 => by
                    by_cases e : k = m
                    · subst e; rw [← HM.out.2.1, ← HM.out.2.2, H0.out]
                    · exact HM.out.1 k (by omega) hk2, by (repeat (first | (with_reducible exact SinceOf.refl _) | (with_reducible assumption) | (with_reducible refine SinceOf.alloc ?_ _) | (with_reducible refine SinceOf.drew ?_) | (with_reducible refine SinceOf.drewN ?_ _) | (with_reducible refine SinceOf.later ?_ _) | (with_reducible refine SinceOf.further ?_ _) | (with_reducible refine SinceOf.setCell ?_ (by first | exact Nat.le_refl _ | (simp; done) | omega | (simp; omega)) _)))⟩
                · have hb : (mi != 0) = true := by simpa using h0
                  obtain rfl : res = false := by
                    rw [← Bool.not_eq_true]
                    intro q
                    have := ((HE.out.2.2 q) i hlt).2 m hlt3
                    rw [← HY.out, ← HM.out.2.1, ← HM.out.2.2] at this
                    exact h0 this
                  clear h0
                  go_wp2_with fail
                  refine region_since (by kernel_rfl) (by kernel_rfl) ?_
                  repeat (go_big_quiet_step ((with_reducible refine Yields.since (MT _))))
                  refine wpQuiet_nil ?_
                  rintro _ ⟨y1, rfl⟩
                  go_wp2_with fail
                  go_returns
                  exact ⟨rfl, H3.out.trans (by (repeat (first | (with_reducible exact SinceOf.refl _) | (with_reducible assumption) | (with_reducible refine SinceOf.alloc ?_ _) | (with_reducible refine SinceOf.drew ?_) | (with_reducible refine SinceOf.drewN ?_ _) | (with_reducible refine SinceOf.later ?_ _) | (with_reducible refine SinceOf.further ?_ _) | (with_reducible refine SinceOf.setCell ?_ (by first | exact Nat.le_refl _ | (simp; done) | omega | (simp; omega)) _))))⟩
              · obtain rfl : m = i := by omega
                have HM := Lib.hid hmt
                clear hmt
                go_wp2_with fail
                go_roundg (G.length - (m + 1))
                case measure => omega
                case rel => exact ⟨m + 1, hlt, Nat.le_refl _, by go_num, fun q hq hqm => by
                  by_cases e : q = m
                  · subst e
                    rw [← HY.out]
                    exact ⟨HF.out.symm, fun k hk => HM.out k hk (by omega)⟩
                  · exact HA.out q hq (by omega), by (repeat (first | (with_reducible exact SinceOf.refl _) | (with_reducible assumption) | (with_reducible refine SinceOf.alloc ?_ _) | (with_reducible refine SinceOf.drew ?_) | (with_reducible refine SinceOf.drewN ?_ _) | (with_reducible refine SinceOf.later ?_ _) | (with_reducible refine SinceOf.further ?_ _) | (with_reducible refine SinceOf.setCell ?_ (by first | exact Nat.le_refl _ | (simp; done) | omega | (simp; omega)) _)))⟩
    · obtain rfl : i = G.length := by omega
      obtain rfl : res = true := HE.out.2.1 fun m hm => hall m hm hm
      clear hall
      go_wp2_with fail
      go_returns
      exact ⟨rfl, H3.out.trans (by (repeat (first | (with_reducible exact SinceOf.refl _) | (with_reducible assumption) | (with_reducible refine SinceOf.alloc ?_ _) | (with_reducible refine SinceOf.drew ?_) | (with_reducible refine SinceOf.drewN ?_ _) | (with_reducible refine SinceOf.later ?_ _) | (with_reducible refine SinceOf.further ?_ _) | (with_reducible refine SinceOf.setCell ?_ (by first | exact Nat.le_refl _ | (simp; done) | omega | (simp; omega)) _))))⟩
end Go.Proofs.YtkpnffokjpgalaaGreat
/- Layer 46: next of the reference. -/
namespace Go.Proofs.YtkpnffokjpgalaaGreat
set_option linter.unusedVariables false
set_option linter.unusedSimpArgs false
open Go.RowKit Go.Sort
attribute [local go_sem ↓] Go.wp_at_zero Go.wp_at_succ

/-- A variable that holds a segment and may be written. -/
structure SegX (W : World) (b : Nat) (s : SegP) : Prop where
  v : SegV W b s
  f : ∀ j, W.frozen? ⟨b, j, none⟩ = false
theorem SegX.of {W W' : World} {b : Nat} {s : SegP} (h : SegX W b s) (hs : SinceOf W W') : SegX W' b s := by
  refine ⟨h.v.of hs, fun j => ?_⟩
  obtain ⟨z, rfl⟩ := hs
  have : Nonempty (Old W b) := ⟨⟨h.v.lt⟩⟩
  rw [Since.frozen]; exact h.f j
theorem SegV.setNe {W : World} {b g i : Nat} {s : SegP} {u : Value} (h : SegV W b s) (hne : b ≠ g) : SegV (W.setCell ⟨g, i, none⟩ u) b s := by
  have q : ∀ j, (W.setCell ⟨g, i, none⟩ u).cell? ⟨b, j, none⟩ = W.cell? ⟨b, j, none⟩ := fun j => World.cell?_setCell_other _ _ _ _ (by intro e; injection e with e1; exact hne e1.symm)
  exact ⟨(q 0).trans h.c0, (q 1).trans h.c1, (q 2).trans h.c2, (q 3).trans h.c3, by simpa [World.setCell] using h.lt⟩
theorem SegX.setNe {W : World} {b g i : Nat} {s : SegP} {u : Value} (h : SegX W b s) (hne : b ≠ g) : SegX (W.setCell ⟨g, i, none⟩ u) b s := ⟨h.v.setNe hne, fun j => by simpa using h.f j⟩
theorem VarJ.setNe {W : World} {b g i : Nat} {p : Pt} {u : Value} (h : VarJ W b p) (hne : b ≠ g) : VarJ (W.setCell ⟨g, i, none⟩ u) b p := by
  have q : ∀ j, (W.setCell ⟨g, i, none⟩ u).cell? ⟨b, j, none⟩ = W.cell? ⟨b, j, none⟩ := fun j => World.cell?_setCell_other _ _ _ _ (by intro e; injection e with e1; exact hne e1.symm)
  exact ⟨(q 0).trans h.c0, (q 1).trans h.c1, by simpa using h.f0, by simpa using h.f1, by simpa [World.setCell] using h.lt⟩
theorem SegX.put {W : World} {b : Nat} {s : SegP} (h : SegX W b s) (x y z t : Int) : SegX ((((W.setCell ⟨b, 0, none⟩ (.int .i64 x)).setCell ⟨b, 1, none⟩ (.int .i64 y)).setCell ⟨b, 2, none⟩ (.int .i64 z)).setCell ⟨b, 3, none⟩ (.int .i64 t)) b ((x, y), (z, t)) := by
  have ne : ∀ (w : World) (i j : Nat) (u : Value), i ≠ j → (w.setCell ⟨b, i, none⟩ u).cell? ⟨b, j, none⟩ = w.cell? ⟨b, j, none⟩ := fun w i j u hij => World.cell?_setCell_other _ _ _ _ (by intro e; injection e with e1 e2; exact hij e2)
  refine ⟨⟨?_, ?_, ?_, ?_, by simpa [World.setCell] using h.v.lt⟩, fun j => by simpa using h.f j⟩
  · rw [ne _ _ _ _ (by omega), ne _ _ _ _ (by omega), ne _ _ _ _ (by omega)]
    exact World.cell?_setCell_same _ _ _ h.v.c0
  · rw [ne _ _ _ _ (by omega), ne _ _ _ _ (by omega)]
    exact World.cell?_setCell_same _ _ _ (by rw [ne _ _ _ _ (by omega)]; exact h.v.c1)
  · rw [ne _ _ _ _ (by omega)]
    exact World.cell?_setCell_same _ _ _ (by rw [ne _ _ _ _ (by omega), ne _ _ _ _ (by omega)]; exact h.v.c2)
  · exact World.cell?_setCell_same _ _ _ (by rw [ne _ _ _ _ (by omega), ne _ _ _ _ (by omega), ne _ _ _ _ (by omega)]; exact h.v.c3)
theorem bestK_step (s : SegP) (f : Int) (g : SegP) (G : List SegP) (o : Option SegP) : bestK s f (g :: G) o = bestK s f G (if alongB s g && (decide (f ≤ (gpK s g).1) && (match o with | none => true | some x => decide ((gpK s g).1 < (gpK s x).1))) then some g else o) := rfl
def optS (o : Option SegP) : SegP := o.getD noSeg
set_option maxRecDepth 100000 in
set_option maxHeartbeats 32000000 in
theorem refNext_any (s : SegP) (hs : IsSegN s) (f : Int) (hf0 : 0 ≤ f) (hf1 : f ≤ stepsK s.1 s.2) (gA : Option Addr) (gc : Nat) (G : List SegP) (w : World) (hG : IsSegs w gA gc G) (hGl : G.length ≤ 100000) :
    Calls Tryz.prog 69 #[sgv s, vv (pointK s.1 s.2 f).1 (pointK s.1 s.2 f).2, .slice gA G.length gc] w fun e w' => e = .returned (.tuple #[sgv (optS (bestK s f G none)), .bool (bestK s f G none).isSome]) ∧ SinceOf w w' := by
  have H := Lib.hid hG
  clear hG
  have L := fun g => lies_any s g hs
  have S0 := refSub_any s.2.1 s.2.2 s.1.1 s.1.2
  obtain ⟨e1, e2, m1, m2⟩ := sub_sml hs.2.1 hs.2.2
  rw [e1, e2] at S0
  have hfn : near4 (pointK s.1 s.2 f) := point_near hs hf0 hf1
  -- the sign of the product, for a point of the segment
  have DS : ∀ (p q : Pt) (a b : Int), near4 p → near4 q → p = pointK s.1 s.2 a → q = pointK s.1 s.2 b → ∃ d : Int, (∀ w, Gives Tryz.prog 98 #[vv (wsub p.1 q.1) (wsub p.2 q.2), vv (s.2.1 - s.1.1) (s.2.2 - s.1.2)] w (.int .i64 d)) ∧ decide (d < 0) = decide (a < b) := by
    intro p q a b hp hq ep eq
    obtain ⟨g1, g2, g3, g4⟩ := sub_sml hq hp
    refine ⟨_, refDot_any _ _ _ _, ?_⟩
    rw [g1, g2, dot_small g3 g4 m1 m2, decide_eq_decide, ep, eq]
    exact (dot_steps hs b a).2
  obtain ⟨⟨fx, fy⟩, hfe⟩ : ∃ q, q = pointK s.1 s.2 f := ⟨_, rfl⟩
  rw [← hfe] at hfn ⊢
  obtain ⟨RES, hRES⟩ : ∃ q, q = bestK s f G none := ⟨_, rfl⟩
  rw [← hRES]
  have HP := Lib.hid (And.intro hs (And.intro DS (And.intro hfn (And.intro hfe hRES))))
  clear hs DS hfn hfe hRES e1 e2 m1 m2 hf0 hf1
  generalize hdx : s.2.1 - s.1.1 = dx at *
  generalize hdy : s.2.2 - s.1.2 = dy at *
  clear hdx hdy
  obtain ⟨⟨ax, ay⟩, bx, by'⟩ := s
  simp only at S0
  change Calls _ _ #[sg ax ay bx by', vv fx fy, _] _ _
  go_enter Tryz.func69, Tryz.ntmps69
  go_wp2_with fail
  refine (S0 _).calls.mono ?_
  rintro e _ ⟨rfl, x1, rfl⟩
  have hx1 := x1.size
  (try simp only [World.size_alloc] at hx1)
  clear S0
  have q0 : SegV (x1.wd.alloc (.cells #[.int .i64 dx, .int .i64 dy] 25)) (w.heap.size) ((ax, ay), (bx, by')) := SegV.of (W := w.alloc (.cells #[.int .i64 ax, .int .i64 ay, .int .i64 bx, .int .i64 by'] 27)) ⟨by simp, by simp, by simp, by simp, by simp⟩ (by (repeat (first | (with_reducible exact SinceOf.refl _) | (with_reducible assumption) | (with_reducible refine SinceOf.alloc ?_ _) | (with_reducible refine SinceOf.drew ?_) | (with_reducible refine SinceOf.drewN ?_ _) | (with_reducible refine SinceOf.later ?_ _) | (with_reducible refine SinceOf.further ?_ _) | (with_reducible refine SinceOf.setCell ?_ (by first | exact Nat.le_refl _ | (simp; done) | omega | (simp; omega)) _))))
  have q1 : VarJ (x1.wd.alloc (.cells #[.int .i64 dx, .int .i64 dy] 25)) (w.heap.size + 1) (fx, fy) := VarJ.of (W := (w.alloc (.cells #[.int .i64 ax, .int .i64 ay, .int .i64 bx, .int .i64 by'] 27)).alloc (.cells #[.int .i64 fx, .int .i64 fy] 25)) (VarJ.new1 _ _ _ _ _ (by simp)) (by (repeat (first | (with_reducible exact SinceOf.refl _) | (with_reducible assumption) | (with_reducible refine SinceOf.alloc ?_ _) | (with_reducible refine SinceOf.drew ?_) | (with_reducible refine SinceOf.drewN ?_ _) | (with_reducible refine SinceOf.later ?_ _) | (with_reducible refine SinceOf.further ?_ _) | (with_reducible refine SinceOf.setCell ?_ (by first | exact Nat.le_refl _ | (simp; done) | omega | (simp; omega)) _))))
  have z0 : ∀ (W : World), SegX (W.alloc (.cells #[.int .i64 0, .int .i64 0, .int .i64 0, .int .i64 0] 27)) W.heap.size noSeg := fun W => ⟨⟨by simp; rfl, by simp; rfl, by simp; rfl, by simp; rfl, by simp⟩, fun j => by simp⟩
  have q2 : SegX (x1.wd.alloc (.cells #[.int .i64 dx, .int .i64 dy] 25)) (w.heap.size + 1 + 1) noSeg := by
    have := z0 ((w.alloc (.cells #[.int .i64 ax, .int .i64 ay, .int .i64 bx, .int .i64 by'] 27)).alloc (.cells #[.int .i64 fx, .int .i64 fy] 25))
    simp only [World.size_alloc] at this
    exact this.of (by (repeat (first | (with_reducible exact SinceOf.refl _) | (with_reducible assumption) | (with_reducible refine SinceOf.alloc ?_ _) | (with_reducible refine SinceOf.drew ?_) | (with_reducible refine SinceOf.drewN ?_ _) | (with_reducible refine SinceOf.later ?_ _) | (with_reducible refine SinceOf.further ?_ _) | (with_reducible refine SinceOf.setCell ?_ (by first | exact Nat.le_refl _ | (simp; done) | omega | (simp; omega)) _))))
  have q3 : SegX (x1.wd.alloc (.cells #[.int .i64 dx, .int .i64 dy] 25)) (w.heap.size + 1 + 1 + 1) noSeg := by
    have := z0 (((w.alloc (.cells #[.int .i64 ax, .int .i64 ay, .int .i64 bx, .int .i64 by'] 27)).alloc (.cells #[.int .i64 fx, .int .i64 fy] 25)).alloc (.cells #[.int .i64 0, .int .i64 0, .int .i64 0, .int .i64 0] 27))
    simp only [World.size_alloc] at this
    exact this.of (by (repeat (first | (with_reducible exact SinceOf.refl _) | (with_reducible assumption) | (with_reducible refine SinceOf.alloc ?_ _) | (with_reducible refine SinceOf.drew ?_) | (with_reducible refine SinceOf.drewN ?_ _) | (with_reducible refine SinceOf.later ?_ _) | (with_reducible refine SinceOf.further ?_ _) | (with_reducible refine SinceOf.setCell ?_ (by first | exact Nat.le_refl _ | (simp; done) | omega | (simp; omega)) _))))
  have q4 : VarJ (x1.wd.alloc (.cells #[.int .i64 dx, .int .i64 dy] 25)) x1.wd.heap.size (dx, dy) := VarJ.new _ _ _ _
  obtain ⟨dB, hdB⟩ : ∃ dB, dB = x1.wd.heap.size := ⟨_, rfl⟩
  rw [← hdB] at q4
  have HQ := Lib.hid (And.intro q0 (And.intro q1 (And.intro q2 (And.intro q3 q4))))
  have hdb : w.heap.size + 4 ≤ dB := by omega
  have HDB := Lib.hid hdB
  clear q0 q1 q2 q3 q4 z0
  go_wp2_with fail
  rw [← hdB]
  clear hdB
  go_loopg [9, 11] G.length (fun gas s9 s11 wr => ∃ (i : Nat) (o : Option SegP), i ≤ G.length ∧ G.length - i ≤ gas ∧ s9 = .bool o.isSome ∧ s11 = .int .i64 i ∧ bestK ((ax, ay), (bx, by')) f (G.drop i) o = RES ∧ (∀ x, o = some x → alongB ((ax, ay), (bx, by')) x = true) ∧ SegV wr (w.heap.size) ((ax, ay), (bx, by')) ∧ VarJ wr (w.heap.size + 1) (fx, fy) ∧ SegX wr (w.heap.size + 1 + 1) noSeg ∧ SegX wr (w.heap.size + 1 + 1 + 1) (optS o) ∧ VarJ wr dB (dx, dy) ∧ SinceOf w wr)
  case atStart => exact ⟨0, none, by omega, by omega, rfl, rfl, by rw [List.drop_zero]; exact HP.out.2.2.2.2.symm, (fun x hx => by cases hx), HQ.out.1, HQ.out.2.1, HQ.out.2.2.1, HQ.out.2.2.2.1, HQ.out.2.2.2.2, by (repeat (first | (with_reducible exact SinceOf.refl _) | (with_reducible assumption) | (with_reducible refine SinceOf.alloc ?_ _) | (with_reducible refine SinceOf.drew ?_) | (with_reducible refine SinceOf.drewN ?_ _) | (with_reducible refine SinceOf.later ?_ _) | (with_reducible refine SinceOf.further ?_ _) | (with_reducible refine SinceOf.setCell ?_ (by first | exact Nat.le_refl _ | (simp; done) | omega | (simp; omega)) _)))⟩
  case round =>
    obtain ⟨i, o, hi, hgas, rfl, rfl, hfin, hal, v0, v1, v2, v3, v4, ⟨z, rfl⟩⟩ := hrel
    have ob0 : Nonempty (Old z.wd w.heap.size) := ⟨⟨v0.lt⟩⟩
    have ob1 : Nonempty (Old z.wd (w.heap.size + 1)) := ⟨⟨v1.lt⟩⟩
    have ob2 : Nonempty (Old z.wd (w.heap.size + 1 + 1)) := ⟨⟨v2.v.lt⟩⟩
    have ob3 : Nonempty (Old z.wd (w.heap.size + 1 + 1 + 1)) := ⟨⟨v3.v.lt⟩⟩
    have ob4 : Nonempty (Old z.wd dB) := ⟨⟨v4.lt⟩⟩
    have a0 := v0.c0
    have a1 := v0.c1
    have a2 := v0.c2
    have a3 := v0.c3
    have f0 := v1.c0
    have f1 := v1.c1
    have m0 := v4.c0
    have m1 := v4.c1
    have n0 := v3.v.c0
    have n1 := v3.v.c1
    have n2 := v3.v.c2
    have n3 := v3.v.c3
    have r0 := v3.f 0
    have r1 := v3.f 1
    have r2 := v3.f 2
    have r3 := v3.f 3
    simp only at a0 a1 a2 a3 f0 f1 m0 m1
    have HV := Lib.hid (And.intro v0 (And.intro v1 (And.intro v2 (And.intro v3 v4))))
    clear v0 v1 v2 v3 v4
    by_cases hlt : i < G.length
    · have hx0 := H.out.of (w' := z.wd) (by (repeat (first | (with_reducible exact SinceOf.refl _) | (with_reducible assumption) | (with_reducible refine SinceOf.alloc ?_ _) | (with_reducible refine SinceOf.drew ?_) | (with_reducible refine SinceOf.drewN ?_ _) | (with_reducible refine SinceOf.later ?_ _) | (with_reducible refine SinceOf.further ?_ _) | (with_reducible refine SinceOf.setCell ?_ (by first | exact Nat.le_refl _ | (simp; done) | omega | (simp; omega)) _))))
      obtain ⟨g, off, rfl, hr⟩ := hx0.at_ (by omega)
      have hO1 := hr.there
      have d0 := hr.e0 i hlt
      have d1 := hr.e1 i hlt
      have d2 := hr.e2 i hlt
      have d3 := hr.e3 i hlt
      rw [List.drop_eq_getElem_cons hlt, bestK_step] at hfin
      obtain ⟨y, hy⟩ : ∃ y, y = G[i] := ⟨_, rfl⟩
      rw [← hy] at d0 d1 d2 d3 hfin
      have LY := L y
      obtain ⟨lv, hlv⟩ : ∃ b, b = alongB ((ax, ay), (bx, by')) y := ⟨_, rfl⟩
      rw [← hlv] at LY hfin
      have HF := Lib.hid (And.intro hfin (And.intro hal hlv))
      have DY : lv = true → ∃ ya d, ((gpK ((ax, ay), (bx, by')) y).1 = ya ∧ near4 y.1 ∧ y.1 = pointK ((ax, ay), (bx, by')).1 ((ax, ay), (bx, by')).2 ya) ∧ (∀ w, Gives Tryz.prog 98 #[vv (wsub y.1.1 fx) (wsub y.1.2 fy), vv dx dy] w (.int .i64 d)) ∧ decide (d < 0) = decide (ya < f) := fun h => by
        rw [hlv] at h
        obtain ⟨ya, yb, y0, y1, y2, yg, yy⟩ := (along_iff HP.out.1).1 h
        have e1 : y.1 = pointK ((ax, ay), (bx, by')).1 ((ax, ay), (bx, by')).2 ya := by rw [yy]
        have hn : near4 y.1 := by rw [e1]; exact point_near HP.out.1 (by omega) (by omega)
        obtain ⟨d, h1, h2⟩ := HP.out.2.1 y.1 (fx, fy) ya f hn HP.out.2.2.1 e1 HP.out.2.2.2.1
        exact ⟨ya, d, ⟨by rw [yg], hn, e1⟩, h1, h2⟩
      have SB := refSub_any y.1.1 y.1.2 fx fy
      have SB2 := fun x : SegP => refSub_any y.1.1 y.1.2 x.1.1 x.1.2
      have HY := Lib.hid (And.intro hy DY)
      obtain ⟨⟨yx, yy⟩, zx, zy⟩ := y
      simp only at d0 d1 d2 d3 SB SB2
      change ∀ w, Gives _ _ #[sg yx yy zx zy, sg ax ay bx by'] w _ at LY
      have b1 : (0 : Int) ≤ i := by omega
      have b2 : (i : Int) < G.length := by omega
      clear hfin hal hlv DY hy hr hx0
      cases lv
      · go_wp2_with fail
        refine region_later (by kernel_rfl) (by kernel_rfl) ?_
        repeat (go_big_quiet_step ((with_reducible refine Gives.later (LY _))))
        refine wpQuiet_nil ?_
        rintro _ ⟨u1, rfl⟩
        go_wp2_with fail
        go_roundg (G.length - (i + 1))
        case measure => omega
        case rel => exact ⟨i + 1, o, hlt, Nat.le_refl _, rfl, by go_num, by have := HF.out.1; simpa using this, HF.out.2.1, HV.out.1.of (by (repeat (first | (with_reducible exact SinceOf.refl _) | (with_reducible assumption) | (with_reducible refine SinceOf.alloc ?_ _) | (with_reducible refine SinceOf.drew ?_) | (with_reducible refine SinceOf.drewN ?_ _) | (with_reducible refine SinceOf.later ?_ _) | (with_reducible refine SinceOf.further ?_ _) | (with_reducible refine SinceOf.setCell ?_ (by first | exact Nat.le_refl _ | (simp; done) | omega | (simp; omega)) _)))), HV.out.2.1.of (by (repeat (first | (with_reducible exact SinceOf.refl _) | (with_reducible assumption) | (with_reducible refine SinceOf.alloc ?_ _) | (with_reducible refine SinceOf.drew ?_) | (with_reducible refine SinceOf.drewN ?_ _) | (with_reducible refine SinceOf.later ?_ _) | (with_reducible refine SinceOf.further ?_ _) | (with_reducible refine SinceOf.setCell ?_ (by first | exact Nat.le_refl _ | (simp; done) | omega | (simp; omega)) _)))), HV.out.2.2.1.of (by (repeat (first | (with_reducible exact SinceOf.refl _) | (with_reducible assumption) | (with_reducible refine SinceOf.alloc ?_ _) | (with_reducible refine SinceOf.drew ?_) | (with_reducible refine SinceOf.drewN ?_ _) | (with_reducible refine SinceOf.later ?_ _) | (with_reducible refine SinceOf.further ?_ _) | (with_reducible refine SinceOf.setCell ?_ (by first | exact Nat.le_refl _ | (simp; done) | omega | (simp; omega)) _)))), HV.out.2.2.2.1.of (by (repeat (first | (with_reducible exact SinceOf.refl _) | (with_reducible assumption) | (with_reducible refine SinceOf.alloc ?_ _) | (with_reducible refine SinceOf.drew ?_) | (with_reducible refine SinceOf.drewN ?_ _) | (with_reducible refine SinceOf.later ?_ _) | (with_reducible refine SinceOf.further ?_ _) | (with_reducible refine SinceOf.setCell ?_ (by first | exact Nat.le_refl _ | (simp; done) | omega | (simp; omega)) _)))), HV.out.2.2.2.2.of (by (repeat (first | (with_reducible exact SinceOf.refl _) | (with_reducible assumption) | (with_reducible refine SinceOf.alloc ?_ _) | (with_reducible refine SinceOf.drew ?_) | (with_reducible refine SinceOf.drewN ?_ _) | (with_reducible refine SinceOf.later ?_ _) | (with_reducible refine SinceOf.further ?_ _) | (with_reducible refine SinceOf.setCell ?_ (by first | exact Nat.le_refl _ | (simp; done) | omega | (simp; omega)) _)))), by (repeat (first | (with_reducible exact SinceOf.refl _) | (with_reducible assumption) | (with_reducible refine SinceOf.alloc ?_ _) | (with_reducible refine SinceOf.drew ?_) | (with_reducible refine SinceOf.drewN ?_ _) | (with_reducible refine SinceOf.later ?_ _) | (with_reducible refine SinceOf.further ?_ _) | (with_reducible refine SinceOf.setCell ?_ (by first | exact Nat.le_refl _ | (simp; done) | omega | (simp; omega)) _)))⟩
      · obtain ⟨ya, d, ⟨hya, hny, hyp⟩, DT, hd⟩ := HY.out.2 rfl
        obtain ⟨l1, hl1⟩ : ∃ b, b = decide (ya < f) := ⟨_, rfl⟩
        rw [← hl1] at hd
        have HL := Lib.hid (And.intro hl1 (And.intro hya (And.intro hny hyp)))
        generalize wsub yx fx = u1 at *
        generalize wsub yy fy = u2 at *
        clear hl1 hya hny hyp
        cases l1
        · have hfa : decide (f ≤ (gpK ((ax, ay), (bx, by')) ((yx, yy), (zx, zy))).1) = true := by
            have h1 := HL.out.1
            have h2 := of_decide_eq_false h1.symm
            rw [HL.out.2.1]
            exact decide_eq_true (by omega)
          have hst := HF.out.1
          rw [hfa, Bool.true_and, Bool.true_and] at hst
          have HST := Lib.hid hst
          clear hst hfa
          go_wp2_with fail
          refine region_later (by kernel_rfl) (by kernel_rfl) ?_
          repeat (go_big_quiet_step ((first | (with_reducible refine Gives.later (LY _)) | (with_reducible refine Gives.later (SB _)) | (with_reducible refine Gives.later (DT _)))))
          refine wpQuiet_nil ?_
          rintro _ ⟨w1, rfl⟩
          clear LY DT SB hd
          cases o with
          | none =>
            have hst2 : bestK ((ax, ay), (bx, by')) f (G.drop (i + 1)) (some ((yx, yy), (zx, zy))) = RES := by have := HST.out; simpa using this
            have HST2 := Lib.hid hst2
            clear hst2
            go_wp2_with fail
            refine region_later (by kernel_rfl) (by kernel_rfl) ?_
            repeat (go_big_quiet_step (fail))
            refine wpQuiet_nil ?_
            rintro _ ⟨w2, rfl⟩
            go_wp2_with fail
            go_roundg (G.length - (i + 1))
            case measure => omega
            case rel =>
              refine ⟨i + 1, some ((yx, yy), (zx, zy)), hlt, Nat.le_refl _, rfl, by go_num, HST2.out, ?_, ?_, ?_, ?_, ?_, ?_, ?_⟩
              · intro x hx
                rw [← Option.some.inj hx]
                exact HF.out.2.2.symm
              · exact ((((HV.out.1.of (by (repeat (first | (with_reducible exact SinceOf.refl _) | (with_reducible assumption) | (with_reducible refine SinceOf.alloc ?_ _) | (with_reducible refine SinceOf.drew ?_) | (with_reducible refine SinceOf.drewN ?_ _) | (with_reducible refine SinceOf.later ?_ _) | (with_reducible refine SinceOf.further ?_ _) | (with_reducible refine SinceOf.setCell ?_ (by first | exact Nat.le_refl _ | (simp; done) | omega | (simp; omega)) _))) : SinceOf z.wd w2.wd)).setNe (by omega)).setNe (by omega)).setNe (by omega)).setNe (by omega)
              · exact ((((HV.out.2.1.of (by (repeat (first | (with_reducible exact SinceOf.refl _) | (with_reducible assumption) | (with_reducible refine SinceOf.alloc ?_ _) | (with_reducible refine SinceOf.drew ?_) | (with_reducible refine SinceOf.drewN ?_ _) | (with_reducible refine SinceOf.later ?_ _) | (with_reducible refine SinceOf.further ?_ _) | (with_reducible refine SinceOf.setCell ?_ (by first | exact Nat.le_refl _ | (simp; done) | omega | (simp; omega)) _))) : SinceOf z.wd w2.wd)).setNe (by omega)).setNe (by omega)).setNe (by omega)).setNe (by omega)
              · exact ((((HV.out.2.2.1.of (by (repeat (first | (with_reducible exact SinceOf.refl _) | (with_reducible assumption) | (with_reducible refine SinceOf.alloc ?_ _) | (with_reducible refine SinceOf.drew ?_) | (with_reducible refine SinceOf.drewN ?_ _) | (with_reducible refine SinceOf.later ?_ _) | (with_reducible refine SinceOf.further ?_ _) | (with_reducible refine SinceOf.setCell ?_ (by first | exact Nat.le_refl _ | (simp; done) | omega | (simp; omega)) _))) : SinceOf z.wd w2.wd)).setNe (by omega)).setNe (by omega)).setNe (by omega)).setNe (by omega)
              · exact (HV.out.2.2.2.1.of (by (repeat (first | (with_reducible exact SinceOf.refl _) | (with_reducible assumption) | (with_reducible refine SinceOf.alloc ?_ _) | (with_reducible refine SinceOf.drew ?_) | (with_reducible refine SinceOf.drewN ?_ _) | (with_reducible refine SinceOf.later ?_ _) | (with_reducible refine SinceOf.further ?_ _) | (with_reducible refine SinceOf.setCell ?_ (by first | exact Nat.le_refl _ | (simp; done) | omega | (simp; omega)) _))) : SinceOf z.wd w2.wd)).put yx yy zx zy
              · exact ((((HV.out.2.2.2.2.of (by (repeat (first | (with_reducible exact SinceOf.refl _) | (with_reducible assumption) | (with_reducible refine SinceOf.alloc ?_ _) | (with_reducible refine SinceOf.drew ?_) | (with_reducible refine SinceOf.drewN ?_ _) | (with_reducible refine SinceOf.later ?_ _) | (with_reducible refine SinceOf.further ?_ _) | (with_reducible refine SinceOf.setCell ?_ (by first | exact Nat.le_refl _ | (simp; done) | omega | (simp; omega)) _))) : SinceOf z.wd w2.wd)).setNe (by omega)).setNe (by omega)).setNe (by omega)).setNe (by omega)
              · (repeat (first | (with_reducible exact SinceOf.refl _) | (with_reducible assumption) | (with_reducible refine SinceOf.alloc ?_ _) | (with_reducible refine SinceOf.drew ?_) | (with_reducible refine SinceOf.drewN ?_ _) | (with_reducible refine SinceOf.later ?_ _) | (with_reducible refine SinceOf.further ?_ _) | (with_reducible refine SinceOf.setCell ?_ (by first | exact Nat.le_refl _ | (simp; done) | omega | (simp; omega)) _)))
          | some x =>
            have hxal := HF.out.2.1 x rfl
            obtain ⟨xa, xb, xa0, xab, xb1, xg, xe⟩ := (along_iff HP.out.1).1 hxal
            have ex : x.1 = pointK ((ax, ay), (bx, by')).1 ((ax, ay), (bx, by')).2 xa := by rw [xe]
            have hnx : near4 x.1 := by rw [ex]; exact point_near HP.out.1 (by omega) (by omega)
            obtain ⟨d2', DT2, hd2⟩ := HP.out.2.1 (yx, yy) x.1 ya xa HL.out.2.2.1 hnx HL.out.2.2.2 ex
            have SB3 := SB2 x
            simp only [Option.isSome_some]
            have n0' : z.wd.cell? ⟨w.heap.size + 1 + 1 + 1, 0, none⟩ = some (.int .i64 x.1.1) := n0
            have n1' : z.wd.cell? ⟨w.heap.size + 1 + 1 + 1, 1, none⟩ = some (.int .i64 x.1.2) := n1
            have n2' : z.wd.cell? ⟨w.heap.size + 1 + 1 + 1, 2, none⟩ = some (.int .i64 x.2.1) := n2
            have n3' : z.wd.cell? ⟨w.heap.size + 1 + 1 + 1, 3, none⟩ = some (.int .i64 x.2.2) := n3
            obtain ⟨l2, hl2⟩ : ∃ b, b = decide (ya < xa) := ⟨_, rfl⟩
            rw [← hl2] at hd2
            have hst2 : bestK ((ax, ay), (bx, by')) f (G.drop (i + 1)) (if l2 = true then some ((yx, yy), (zx, zy)) else some x) = RES := by
              have h1 := HST.out
              simp only [HL.out.2.1, xg] at h1
              rw [hl2]
              exact h1
            have HST2 := Lib.hid hst2
            generalize wsub yx x.1.1 = u3 at *
            generalize wsub yy x.1.2 = u4 at *
            clear n0 n1 n2 n3 hst2 hl2 hnx ex xe xg hxal SB2
            cases l2
            · have hst3 : bestK ((ax, ay), (bx, by')) f (G.drop (i + 1)) (some x) = RES := HST2.out
              have HST3 := Lib.hid hst3
              clear hst3
              go_wp2_with fail
              refine region_later (by kernel_rfl) (by kernel_rfl) ?_
              repeat (go_big_quiet_step ((first | (with_reducible refine Gives.later (SB3 _)) | (with_reducible refine Gives.later (DT2 _)))))
              refine wpQuiet_nil ?_
              rintro _ ⟨w2, rfl⟩
              go_wp2_with fail
              go_roundg (G.length - (i + 1))
              case measure => omega
              case rel => exact ⟨i + 1, some x, hlt, Nat.le_refl _, rfl, by go_num, HST3.out, HF.out.2.1, HV.out.1.of (by (repeat (first | (with_reducible exact SinceOf.refl _) | (with_reducible assumption) | (with_reducible refine SinceOf.alloc ?_ _) | (with_reducible refine SinceOf.drew ?_) | (with_reducible refine SinceOf.drewN ?_ _) | (with_reducible refine SinceOf.later ?_ _) | (with_reducible refine SinceOf.further ?_ _) | (with_reducible refine SinceOf.setCell ?_ (by first | exact Nat.le_refl _ | (simp; done) | omega | (simp; omega)) _)))), HV.out.2.1.of (by (repeat (first | (with_reducible exact SinceOf.refl _) | (with_reducible assumption) | (with_reducible refine SinceOf.alloc ?_ _) | (with_reducible refine SinceOf.drew ?_) | (with_reducible refine SinceOf.drewN ?_ _) | (with_reducible refine SinceOf.later ?_ _) | (with_reducible refine SinceOf.further ?_ _) | (with_reducible refine SinceOf.setCell ?_ (by first | exact Nat.le_refl _ | (simp; done) | omega | (simp; omega)) _)))), HV.out.2.2.1.of (by (repeat (first | (with_reducible exact SinceOf.refl _) | (with_reducible assumption) | (with_reducible refine SinceOf.alloc ?_ _) | (with_reducible refine SinceOf.drew ?_) | (with_reducible refine SinceOf.drewN ?_ _) | (with_reducible refine SinceOf.later ?_ _) | (with_reducible refine SinceOf.further ?_ _) | (with_reducible refine SinceOf.setCell ?_ (by first | exact Nat.le_refl _ | (simp; done) | omega | (simp; omega)) _)))), HV.out.2.2.2.1.of (by (repeat (first | (with_reducible exact SinceOf.refl _) | (with_reducible assumption) | (with_reducible refine SinceOf.alloc ?_ _) | (with_reducible refine SinceOf.drew ?_) | (with_reducible refine SinceOf.drewN ?_ _) | (with_reducible refine SinceOf.later ?_ _) | (with_reducible refine SinceOf.further ?_ _) | (with_reducible refine SinceOf.setCell ?_ (by first | exact Nat.le_refl _ | (simp; done) | omega | (simp; omega)) _)))), HV.out.2.2.2.2.of (by (repeat (first | (with_reducible exact SinceOf.refl _) | (with_reducible assumption) | (with_reducible refine SinceOf.alloc ?_ _) | (with_reducible refine SinceOf.drew ?_) | (with_reducible refine SinceOf.drewN ?_ _) | (with_reducible refine SinceOf.later ?_ _) | (with_reducible refine SinceOf.further ?_ _) | (with_reducible refine SinceOf.setCell ?_ (by first | exact Nat.le_refl _ | (simp; done) | omega | (simp; omega)) _)))), by (repeat (first | (with_reducible exact SinceOf.refl _) | (with_reducible assumption) | (with_reducible refine SinceOf.alloc ?_ _) | (with_reducible refine SinceOf.drew ?_) | (with_reducible refine SinceOf.drewN ?_ _) | (with_reducible refine SinceOf.later ?_ _) | (with_reducible refine SinceOf.further ?_ _) | (with_reducible refine SinceOf.setCell ?_ (by first | exact Nat.le_refl _ | (simp; done) | omega | (simp; omega)) _)))⟩
            · have hst3 : bestK ((ax, ay), (bx, by')) f (G.drop (i + 1)) (some ((yx, yy), (zx, zy))) = RES := HST2.out
              clear HST2
              have HST2 := Lib.hid hst3
              clear hst3
              go_wp2_with fail
              refine region_later (by kernel_rfl) (by kernel_rfl) ?_
              repeat (go_big_quiet_step ((first | (with_reducible refine Gives.later (SB3 _)) | (with_reducible refine Gives.later (DT2 _)))))
              refine wpQuiet_nil ?_
              rintro _ ⟨w2, rfl⟩
              clear SB3 DT2
              go_wp2_with fail
              go_roundg (G.length - (i + 1))
              case measure => omega
              case rel =>
                refine ⟨i + 1, some ((yx, yy), (zx, zy)), hlt, Nat.le_refl _, rfl, by go_num, HST2.out, ?_, ?_, ?_, ?_, ?_, ?_, ?_⟩
                · intro x hx
                  rw [← Option.some.inj hx]
                  exact HF.out.2.2.symm
                · exact ((((HV.out.1.of (by (repeat (first | (with_reducible exact SinceOf.refl _) | (with_reducible assumption) | (with_reducible refine SinceOf.alloc ?_ _) | (with_reducible refine SinceOf.drew ?_) | (with_reducible refine SinceOf.drewN ?_ _) | (with_reducible refine SinceOf.later ?_ _) | (with_reducible refine SinceOf.further ?_ _) | (with_reducible refine SinceOf.setCell ?_ (by first | exact Nat.le_refl _ | (simp; done) | omega | (simp; omega)) _))) : SinceOf z.wd w2.wd)).setNe (by omega)).setNe (by omega)).setNe (by omega)).setNe (by omega)
                · exact ((((HV.out.2.1.of (by (repeat (first | (with_reducible exact SinceOf.refl _) | (with_reducible assumption) | (with_reducible refine SinceOf.alloc ?_ _) | (with_reducible refine SinceOf.drew ?_) | (with_reducible refine SinceOf.drewN ?_ _) | (with_reducible refine SinceOf.later ?_ _) | (with_reducible refine SinceOf.further ?_ _) | (with_reducible refine SinceOf.setCell ?_ (by first | exact Nat.le_refl _ | (simp; done) | omega | (simp; omega)) _))) : SinceOf z.wd w2.wd)).setNe (by omega)).setNe (by omega)).setNe (by omega)).setNe (by omega)
                · exact ((((HV.out.2.2.1.of (by (repeat (first | (with_reducible exact SinceOf.refl _) | (with_reducible assumption) | (with_reducible refine SinceOf.alloc ?_ _) | (with_reducible refine SinceOf.drew ?_) | (with_reducible refine SinceOf.drewN ?_ _) | (with_reducible refine SinceOf.later ?_ _) | (with_reducible refine SinceOf.further ?_ _) | (with_reducible refine SinceOf.setCell ?_ (by first | exact Nat.le_refl _ | (simp; done) | omega | (simp; omega)) _))) : SinceOf z.wd w2.wd)).setNe (by omega)).setNe (by omega)).setNe (by omega)).setNe (by omega)
                · exact (HV.out.2.2.2.1.of (by (repeat (first | (with_reducible exact SinceOf.refl _) | (with_reducible assumption) | (with_reducible refine SinceOf.alloc ?_ _) | (with_reducible refine SinceOf.drew ?_) | (with_reducible refine SinceOf.drewN ?_ _) | (with_reducible refine SinceOf.later ?_ _) | (with_reducible refine SinceOf.further ?_ _) | (with_reducible refine SinceOf.setCell ?_ (by first | exact Nat.le_refl _ | (simp; done) | omega | (simp; omega)) _))) : SinceOf z.wd w2.wd)).put yx yy zx zy
                · exact ((((HV.out.2.2.2.2.of (by (repeat (first | (with_reducible exact SinceOf.refl _) | (with_reducible assumption) | (with_reducible refine SinceOf.alloc ?_ _) | (with_reducible refine SinceOf.drew ?_) | (with_reducible refine SinceOf.drewN ?_ _) | (with_reducible refine SinceOf.later ?_ _) | (with_reducible refine SinceOf.further ?_ _) | (with_reducible refine SinceOf.setCell ?_ (by first | exact Nat.le_refl _ | (simp; done) | omega | (simp; omega)) _))) : SinceOf z.wd w2.wd)).setNe (by omega)).setNe (by omega)).setNe (by omega)).setNe (by omega)
                · (repeat (first | (with_reducible exact SinceOf.refl _) | (with_reducible assumption) | (with_reducible refine SinceOf.alloc ?_ _) | (with_reducible refine SinceOf.drew ?_) | (with_reducible refine SinceOf.drewN ?_ _) | (with_reducible refine SinceOf.later ?_ _) | (with_reducible refine SinceOf.further ?_ _) | (with_reducible refine SinceOf.setCell ?_ (by first | exact Nat.le_refl _ | (simp; done) | omega | (simp; omega)) _)))
        · have hst : bestK ((ax, ay), (bx, by')) f (G.drop (i + 1)) o = RES := by
            have h1 := HF.out.1
            have h2 := of_decide_eq_true HL.out.1.symm
            rw [HL.out.2.1, decide_eq_false (show ¬ f ≤ ya by omega)] at h1
            simpa using h1
          have HST := Lib.hid hst
          clear hst
          go_wp2_with fail
          refine region_later (by kernel_rfl) (by kernel_rfl) ?_
          repeat (go_big_quiet_step ((first | (with_reducible refine Gives.later (LY _)) | (with_reducible refine Gives.later (SB _)) | (with_reducible refine Gives.later (DT _)))))
          refine wpQuiet_nil ?_
          rintro _ ⟨w1, rfl⟩
          go_wp2_with fail
          go_roundg (G.length - (i + 1))
          case measure => omega
          case rel => exact ⟨i + 1, o, hlt, Nat.le_refl _, rfl, by go_num, HST.out, HF.out.2.1, HV.out.1.of (by (repeat (first | (with_reducible exact SinceOf.refl _) | (with_reducible assumption) | (with_reducible refine SinceOf.alloc ?_ _) | (with_reducible refine SinceOf.drew ?_) | (with_reducible refine SinceOf.drewN ?_ _) | (with_reducible refine SinceOf.later ?_ _) | (with_reducible refine SinceOf.further ?_ _) | (with_reducible refine SinceOf.setCell ?_ (by first | exact Nat.le_refl _ | (simp; done) | omega | (simp; omega)) _)))), HV.out.2.1.of (by (repeat (first | (with_reducible exact SinceOf.refl _) | (with_reducible assumption) | (with_reducible refine SinceOf.alloc ?_ _) | (with_reducible refine SinceOf.drew ?_) | (with_reducible refine SinceOf.drewN ?_ _) | (with_reducible refine SinceOf.later ?_ _) | (with_reducible refine SinceOf.further ?_ _) | (with_reducible refine SinceOf.setCell ?_ (by first | exact Nat.le_refl _ | (simp; done) | omega | (simp; omega)) _)))), HV.out.2.2.1.of (by (repeat (first | (with_reducible exact SinceOf.refl _) | (with_reducible assumption) | (with_reducible refine SinceOf.alloc ?_ _) | (with_reducible refine SinceOf.drew ?_) | (with_reducible refine SinceOf.drewN ?_ _) | (with_reducible refine SinceOf.later ?_ _) | (with_reducible refine SinceOf.further ?_ _) | (with_reducible refine SinceOf.setCell ?_ (by first | exact Nat.le_refl _ | (simp; done) | omega | (simp; omega)) _)))), HV.out.2.2.2.1.of (by (repeat (first | (with_reducible exact SinceOf.refl _) | (with_reducible assumption) | (with_reducible refine SinceOf.alloc ?_ _) | (with_reducible refine SinceOf.drew ?_) | (with_reducible refine SinceOf.drewN ?_ _) | (with_reducible refine SinceOf.later ?_ _) | (with_reducible refine SinceOf.further ?_ _) | (with_reducible refine SinceOf.setCell ?_ (by first | exact Nat.le_refl _ | (simp; done) | omega | (simp; omega)) _)))), HV.out.2.2.2.2.of (by (repeat (first | (with_reducible exact SinceOf.refl _) | (with_reducible assumption) | (with_reducible refine SinceOf.alloc ?_ _) | (with_reducible refine SinceOf.drew ?_) | (with_reducible refine SinceOf.drewN ?_ _) | (with_reducible refine SinceOf.later ?_ _) | (with_reducible refine SinceOf.further ?_ _) | (with_reducible refine SinceOf.setCell ?_ (by first | exact Nat.le_refl _ | (simp; done) | omega | (simp; omega)) _)))), by (repeat (first | (with_reducible exact SinceOf.refl _) | (with_reducible assumption) | (with_reducible refine SinceOf.alloc ?_ _) | (with_reducible refine SinceOf.drew ?_) | (with_reducible refine SinceOf.drewN ?_ _) | (with_reducible refine SinceOf.later ?_ _) | (with_reducible refine SinceOf.further ?_ _) | (with_reducible refine SinceOf.setCell ?_ (by first | exact Nat.le_refl _ | (simp; done) | omega | (simp; omega)) _)))⟩
    · obtain rfl : i = G.length := by omega
      rw [List.drop_length] at hfin
      obtain rfl : o = RES := hfin
      have p0 := HV.out.2.2.1.v.c0
      have p1 := HV.out.2.2.1.v.c1
      have p2 := HV.out.2.2.1.v.c2
      have p3 := HV.out.2.2.1.v.c3
      have g0 := HV.out.2.2.1.f 0
      have g1 := HV.out.2.2.1.f 1
      have g2 := HV.out.2.2.1.f 2
      have g3 := HV.out.2.2.1.f 3
      obtain ⟨os, hos⟩ : ∃ q, q = optS o := ⟨_, rfl⟩
      rw [← hos] at n0 n1 n2 n3
      have HOS := Lib.hid hos
      clear hos
      have hX := fun o0 o1 o2 o3 => (HV.out.2.2.1).put o0 o1 o2 o3
      obtain ⟨⟨o0, o1⟩, o2, o3⟩ := os
      simp only at n0 n1 n2 n3
      have hY := hX o0 o1 o2 o3
      have y0 := hY.v.c0
      have y1 := hY.v.c1
      have y2 := hY.v.c2
      have y3 := hY.v.c3
      simp only at y0 y1 y2 y3
      clear hX hY
      go_wp2_with fail
      refine bodyPost_ret (v := .tuple #[sg o0 o1 o2 o3, .bool o.isSome]) (by simp [results, Tryz.results69, go_sem, *]; try rfl) rfl ?_
      exact ⟨by rw [← HOS.out], by (repeat (first | (with_reducible exact SinceOf.refl _) | (with_reducible assumption) | (with_reducible refine SinceOf.alloc ?_ _) | (with_reducible refine SinceOf.drew ?_) | (with_reducible refine SinceOf.drewN ?_ _) | (with_reducible refine SinceOf.later ?_ _) | (with_reducible refine SinceOf.further ?_ _) | (with_reducible refine SinceOf.setCell ?_ (by first | exact Nat.le_refl _ | (simp; done) | omega | (simp; omega)) _)))⟩
end Go.Proofs.YtkpnffokjpgalaaGreat
