/- Layer 16: NofitExchange, for lists of a bounded length. -/
import Derived.Test.YtbienlhofkfdpaaNof19
import Derived.Deep.RegionHeld3
namespace Go.Proofs.Ytbienlhofkfdpaa
open Go.RowKit Go.Sort
set_option linter.unusedVariables false
set_option linter.unusedSimpArgs false
attribute [local go_sem ↓] Go.wp_at_zero Go.wp_at_succ

def GoodX (x : RgR) : Prop := Conv15 x.xs ∧ ∀ p ∈ x.xs, near 500 p
theorem mem_vxs {X : List RgR} {r : List Pt} : r ∈ vxs X ↔ ∃ x ∈ X, x.xs = r := by unfold vxs; rw [List.mem_map]
theorem wadd_pt {p q : Pt} (hp : near 1000 p) (hq : near 1000 q) : (wadd p.1 q.1, wadd p.2 q.2) = addP p q := by
  unfold near at hp hq
  rw [wadd_near (n := 1) (by omega) (by omega) (by omega), wadd_near (n := 1) (by omega) (by omega) (by omega)]
  rfl
set_option maxRecDepth 100000 in
set_option maxHeartbeats 32000000 in
theorem nofitExchange_any (A B : Option Addr) (c d : Nat) (X Y : List RgR) (ax ay bx by' : Int) (w : World) (h : IsRings w A c X) (h2 : IsRings w B d Y) (hk : X.length + Y.length ≤ 1048576) : Yields Try.prog 12 #[.slice A X.length c, .slice B Y.length d, .agg #[.int .i64 ax, .int .i64 ay, .int .i64 bx, .int .i64 by']] w (.bool true) := by
  apply Yields.ret
  obtain ⟨i0, hi, hz0, hz1, hz2⟩ := info_parts infoRing
  have HI := Lib.hid (And.intro hi (And.intro hz0 (And.intro hz1 hz2)))
  have W1 := refWithin_any ax ay 1000
  have W2 := refWithin_any bx by' 1000
  obtain ⟨L, hL⟩ : ∃ L, L = X ++ Y := ⟨_, rfl⟩
  have hLE : ([] ++ X).length + Y.length = L.length := by rw [hL]; simp
  have hLn : L.length ≤ 1048576 := by rw [hL, List.length_append]; exact hk
  have hall : ∀ x ∈ L, IsRing w x := fun x hx => by
    rw [hL] at hx
    rcases List.mem_append.1 hx with q | q
    · exact h.all x q
    · exact h2.all x q
  have H := Lib.hid (And.intro h (And.intro h2 (And.intro hall (And.intro hL hLE))))
  clear hi hz0 hz1 hz2 h h2 hall hL hLE
  go_enter Try.func12, Try.ntmps12
  go_wp2_with fail
  refine (awake16_any _).mono ?_
  rintro e _ ⟨rfl, x1, rfl⟩
  go_wp2_with (first
    | (at_builtin; refine wpList_append_row rfl (.tmp 22) (.tmp 23) 31 rfl encG_len (by omega) encG_one i0 _ 24 Try.underlying31 HI.out.1 HI.out.2.1 HI.out.2.2.1 HI.out.2.2.2 rfl (l := []) (A := some ⟨x1.wd.heap.size, 0, none⟩) (c := 0) (base := x1.wd.heap.size) rfl (World.ownsRow_lit x1.wd #[] 0 (Nat.le_refl _) (Nat.zero_le _) rfl) (m := X) rfl (H.out.1.row.of (by (repeat (first | (with_reducible exact SinceOf.refl _) | (with_reducible assumption) | (with_reducible refine SinceOf.alloc ?_ _) | (with_reducible refine SinceOf.drew ?_) | (with_reducible refine SinceOf.drewN ?_ _) | (with_reducible refine SinceOf.later ?_ _) | (with_reducible refine SinceOf.further ?_ _) | (with_reducible refine SinceOf.setCell ?_ (by first | exact Nat.le_refl _ | (simp; done) | omega | (simp; omega)) _))))) (by unfold maxLen; simp; omega) (by simp; omega) (by simp) ?_; intro A5 c5 w5 ho5 hgr5 hb5)
    | (at_builtin; refine wpList_append_row rfl (.tmp 24) (.tmp 25) 31 rfl encG_len (by omega) encG_one i0 _ 24 Try.underlying31 HI.out.1 HI.out.2.1 HI.out.2.2.1 HI.out.2.2.2 rfl (l := [] ++ X) (A := A5) (c := c5) (base := x1.wd.heap.size) (by rfl) ho5 (m := Y) rfl (H.out.2.1.row.of (SinceOf.grown (show SinceOf w (x1.wd.alloc (.cells #[] 23)) by (repeat (first | (with_reducible exact SinceOf.refl _) | (with_reducible assumption) | (with_reducible refine SinceOf.alloc ?_ _) | (with_reducible refine SinceOf.drew ?_) | (with_reducible refine SinceOf.drewN ?_ _) | (with_reducible refine SinceOf.later ?_ _) | (with_reducible refine SinceOf.further ?_ _) | (with_reducible refine SinceOf.setCell ?_ (by first | exact Nat.le_refl _ | (simp; done) | omega | (simp; omega)) _)))) hgr5 (fun q hq => by (have e : q = x1.wd.heap.size := by simpa [blockOf] using hq.symm); (have := x1.size); simp at this; omega))) (by unfold maxLen; simp; omega) (by simp; omega) (by have := hgr5.size; simp at this; omega) ?_; intro A6 c6 w6 ho6 hgr6 hb6; rw [H.out.2.2.2.2]))
  have hs6 : SinceOf (w.alloc (.cells #[.int .i64 ax, .int .i64 ay, .int .i64 bx, .int .i64 by'] 42)) w6 := by
    have q1 : SinceOf x1.wd w5 := SinceOf.grown (show SinceOf x1.wd (x1.wd.alloc (.cells #[] 23)) by (repeat (first | (with_reducible exact SinceOf.refl _) | (with_reducible assumption) | (with_reducible refine SinceOf.alloc ?_ _) | (with_reducible refine SinceOf.drew ?_) | (with_reducible refine SinceOf.drewN ?_ _) | (with_reducible refine SinceOf.later ?_ _) | (with_reducible refine SinceOf.further ?_ _) | (with_reducible refine SinceOf.setCell ?_ (by first | exact Nat.le_refl _ | (simp; done) | omega | (simp; omega)) _)))) hgr5 (fun q hq => by (have e : q = x1.wd.heap.size := by simpa [blockOf] using hq.symm); omega)
    have q2 : SinceOf x1.wd w6 := SinceOf.grown q1 hgr6 (fun q hq => (ho5.below q hq).1)
    exact SinceOf.trans ⟨x1, rfl⟩ q2
  have hLr : IsRow encG 1 w6 A6 c6 L := by rw [H.out.2.2.2.1]; simpa using ho6.isRow encG_len
  obtain ⟨y6, rfl⟩ := hs6
  have HL := Lib.hid hLr
  clear hLr ho5 ho6 hgr5 hgr6 hb5 hb6
  refine (fewL_any A c X _ (H.out.1.of (by (repeat (first | (with_reducible exact SinceOf.refl _) | (with_reducible assumption) | (with_reducible refine SinceOf.alloc ?_ _) | (with_reducible refine SinceOf.drew ?_) | (with_reducible refine SinceOf.drewN ?_ _) | (with_reducible refine SinceOf.later ?_ _) | (with_reducible refine SinceOf.further ?_ _) | (with_reducible refine SinceOf.setCell ?_ (by first | exact Nat.le_refl _ | (simp; done) | omega | (simp; omega)) _)))))).mono ?_
  rintro e _ ⟨b1, rfl, hb1, ⟨x2, rfl⟩⟩
  cases b1
  · clear hb1
    go_wp2_with fail
    go_returns
    exact ⟨rfl, by (repeat (first | (with_reducible exact SinceOf.refl _) | (with_reducible assumption) | (with_reducible refine SinceOf.alloc ?_ _) | (with_reducible refine SinceOf.drew ?_) | (with_reducible refine SinceOf.drewN ?_ _) | (with_reducible refine SinceOf.later ?_ _) | (with_reducible refine SinceOf.further ?_ _) | (with_reducible refine SinceOf.setCell ?_ (by first | exact Nat.le_refl _ | (simp; done) | omega | (simp; omega)) _)))⟩
  have HF1 := Lib.hid (hb1 rfl)
  clear hb1
  go_wp2_with fail
  refine (fewL_any B d Y _ (H.out.2.1.of (by (repeat (first | (with_reducible exact SinceOf.refl _) | (with_reducible assumption) | (with_reducible refine SinceOf.alloc ?_ _) | (with_reducible refine SinceOf.drew ?_) | (with_reducible refine SinceOf.drewN ?_ _) | (with_reducible refine SinceOf.later ?_ _) | (with_reducible refine SinceOf.further ?_ _) | (with_reducible refine SinceOf.setCell ?_ (by first | exact Nat.le_refl _ | (simp; done) | omega | (simp; omega)) _)))))).mono ?_
  rintro e _ ⟨b2, rfl, hb2, ⟨x3, rfl⟩⟩
  cases b2
  · clear hb2
    go_wp2_with fail
    go_returns
    exact ⟨rfl, by (repeat (first | (with_reducible exact SinceOf.refl _) | (with_reducible assumption) | (with_reducible refine SinceOf.alloc ?_ _) | (with_reducible refine SinceOf.drew ?_) | (with_reducible refine SinceOf.drewN ?_ _) | (with_reducible refine SinceOf.later ?_ _) | (with_reducible refine SinceOf.further ?_ _) | (with_reducible refine SinceOf.setCell ?_ (by first | exact Nat.le_refl _ | (simp; done) | omega | (simp; omega)) _)))⟩
  have HF2 := Lib.hid (hb2 rfl)
  clear hb2
  go_wp2_with fail
  cases hw1 : withinB ax ay 1000
  · rw [hw1] at W1
    clear hw1
    refine (W1 _).calls.mono ?_
    rintro e _ ⟨rfl, x4, rfl⟩
    go_wp2_with fail
    go_returns
    exact ⟨rfl, by (repeat (first | (with_reducible exact SinceOf.refl _) | (with_reducible assumption) | (with_reducible refine SinceOf.alloc ?_ _) | (with_reducible refine SinceOf.drew ?_) | (with_reducible refine SinceOf.drewN ?_ _) | (with_reducible refine SinceOf.later ?_ _) | (with_reducible refine SinceOf.further ?_ _) | (with_reducible refine SinceOf.setCell ?_ (by first | exact Nat.le_refl _ | (simp; done) | omega | (simp; omega)) _)))⟩
  rw [hw1] at W1
  have HW1 := Lib.hid (within1000 hw1)
  clear hw1
  refine (W1 _).calls.mono ?_
  rintro e _ ⟨rfl, x4, rfl⟩
  clear W1
  go_wp2_with fail
  cases hw2 : withinB bx by' 1000
  · rw [hw2] at W2
    clear hw2
    refine (W2 _).calls.mono ?_
    rintro e _ ⟨rfl, x5, rfl⟩
    go_wp2_with fail
    go_returns
    exact ⟨rfl, by (repeat (first | (with_reducible exact SinceOf.refl _) | (with_reducible assumption) | (with_reducible refine SinceOf.alloc ?_ _) | (with_reducible refine SinceOf.drew ?_) | (with_reducible refine SinceOf.drewN ?_ _) | (with_reducible refine SinceOf.later ?_ _) | (with_reducible refine SinceOf.further ?_ _) | (with_reducible refine SinceOf.setCell ?_ (by first | exact Nat.le_refl _ | (simp; done) | omega | (simp; omega)) _)))⟩
  rw [hw2] at W2
  have HW2 := Lib.hid (within1000 hw2)
  clear hw2
  refine (W2 _).calls.mono ?_
  rintro e _ ⟨rfl, x5, rfl⟩
  clear W2
  have hc5 : (x5.wd.cell? ⟨w.heap.size, 0, none⟩ = some (.int .i64 ax) ∧ x5.wd.cell? ⟨w.heap.size, 1, none⟩ = some (.int .i64 ay) ∧ x5.wd.cell? ⟨w.heap.size, 2, none⟩ = some (.int .i64 bx) ∧ x5.wd.cell? ⟨w.heap.size, 3, none⟩ = some (.int .i64 by')) := by
    refine ⟨?_, ?_, ?_, ?_⟩ <;> simp [go_sem]
  have ho5 : Nonempty (Old x5.wd w.heap.size) := inferInstance
  have hs5 : SinceOf w x5.wd := by (repeat (first | (with_reducible exact SinceOf.refl _) | (with_reducible assumption) | (with_reducible refine SinceOf.alloc ?_ _) | (with_reducible refine SinceOf.drew ?_) | (with_reducible refine SinceOf.drewN ?_ _) | (with_reducible refine SinceOf.later ?_ _) | (with_reducible refine SinceOf.further ?_ _) | (with_reducible refine SinceOf.setCell ?_ (by first | exact Nat.le_refl _ | (simp; done) | omega | (simp; omega)) _)))
  have HL5 := Lib.hid (HL.out.of (show SinceOf y6.wd x5.wd by (repeat (first | (with_reducible exact SinceOf.refl _) | (with_reducible assumption) | (with_reducible refine SinceOf.alloc ?_ _) | (with_reducible refine SinceOf.drew ?_) | (with_reducible refine SinceOf.drewN ?_ _) | (with_reducible refine SinceOf.later ?_ _) | (with_reducible refine SinceOf.further ?_ _) | (with_reducible refine SinceOf.setCell ?_ (by first | exact Nat.le_refl _ | (simp; done) | omega | (simp; omega)) _)))))
  have HS5 := Lib.hid hs5
  clear hs5 HL
  obtain ⟨hc50, hc51, hc52, hc53⟩ := hc5
  go_wp2_with fail
  go_loopg [8] L.length (fun gas s8 wr => ∃ i : Nat, s8 = .int .i64 i ∧ i ≤ L.length ∧ L.length - i ≤ gas ∧ (∀ x ∈ L.take i, GoodX x) ∧ SinceOf x5.wd wr)
  case atStart => exact ⟨0, rfl, Nat.zero_le _, by omega, fun x hx => by simp at hx, by (repeat (first | (with_reducible exact SinceOf.refl _) | (with_reducible assumption) | (with_reducible refine SinceOf.alloc ?_ _) | (with_reducible refine SinceOf.drew ?_) | (with_reducible refine SinceOf.drewN ?_ _) | (with_reducible refine SinceOf.later ?_ _) | (with_reducible refine SinceOf.further ?_ _) | (with_reducible refine SinceOf.setCell ?_ (by first | exact Nat.le_refl _ | (simp; done) | omega | (simp; omega)) _)))⟩
  case round =>
    obtain ⟨i, rfl, hi, hgas, hgood, ⟨z, rfl⟩⟩ := hrel
    by_cases hlt : i < L.length
    · obtain ⟨g, off, rfl, hr⟩ := (HL5.out.of (w' := z.wd) (by (repeat (first | (with_reducible exact SinceOf.refl _) | (with_reducible assumption) | (with_reducible refine SinceOf.alloc ?_ _) | (with_reducible refine SinceOf.drew ?_) | (with_reducible refine SinceOf.drewN ?_ _) | (with_reducible refine SinceOf.later ?_ _) | (with_reducible refine SinceOf.further ?_ _) | (with_reducible refine SinceOf.setCell ?_ (by first | exact Nat.le_refl _ | (simp; done) | omega | (simp; omega)) _))))).at_ (by omega)
      have hO := hr.there
      have k0 := hr.g0 i hlt
      have hx := (H.out.2.2.1 _ (List.getElem_mem hlt)).of (w' := z.wd) (SinceOf.trans HS5.out ⟨z, rfl⟩)
      have hnx : ∀ (q : GoodX L[i]), ∀ x ∈ L.take (i + 1), GoodX x := fun q x hx => by
        rw [List.take_succ_eq_append_getElem hlt] at hx
        rcases List.mem_append.1 hx with e | e
        · exact hgood x e
        · rw [List.mem_singleton.1 e]; exact q
      obtain ⟨x, hxe⟩ : ∃ x, x = L[i] := ⟨_, rfl⟩
      rw [← hxe] at k0 hx hnx
      have hxl := hx.len
      have V := refValid_any x.A x.c x.xs z.wd hx.row hx.len
      have HE := Lib.hid (And.intro hnx hx)
      clear hr hgood hxe hx hnx
      obtain ⟨xA, xc, xs⟩ := x
      simp only at k0 hxl HE V
      cases hv : validB xs
      · rw [hv] at V
        clear hv
        go_wp2_with fail
        refine V.calls.mono ?_
        rintro e _ ⟨rfl, x6, rfl⟩
        go_wp2_with fail
        go_returns
        exact ⟨rfl, SinceOf.trans HS5.out (by (repeat (first | (with_reducible exact SinceOf.refl _) | (with_reducible assumption) | (with_reducible refine SinceOf.alloc ?_ _) | (with_reducible refine SinceOf.drew ?_) | (with_reducible refine SinceOf.drewN ?_ _) | (with_reducible refine SinceOf.later ?_ _) | (with_reducible refine SinceOf.further ?_ _) | (with_reducible refine SinceOf.setCell ?_ (by first | exact Nat.le_refl _ | (simp; done) | omega | (simp; omega)) _))))⟩
      rw [hv] at V
      have HV := Lib.hid (validB_iff.1 hv)
      clear hv
      go_wp2_with fail
      refine V.calls.mono ?_
      rintro e _ ⟨rfl, x6, rfl⟩
      clear V
      have k6 : x6.wd.cell? ⟨g, off + i, none⟩ = some (.slice xA xs.length xc) := by rw [Later.cell]; exact k0
      have hO6 : Nonempty (Old x6.wd g) := inferInstance
      clear k0
      go_wp2_with fail
      go_loopg [9] xs.length (fun gas s9 wr => ∃ j : Nat, s9 = .int .i64 j ∧ j ≤ xs.length ∧ xs.length - j ≤ gas ∧ (∀ p ∈ xs.take j, near 500 p) ∧ SinceOf x6.wd wr)
      case atStart => exact ⟨0, rfl, Nat.zero_le _, by omega, fun p hp => by simp at hp, by (repeat (first | (with_reducible exact SinceOf.refl _) | (with_reducible assumption) | (with_reducible refine SinceOf.alloc ?_ _) | (with_reducible refine SinceOf.drew ?_) | (with_reducible refine SinceOf.drewN ?_ _) | (with_reducible refine SinceOf.later ?_ _) | (with_reducible refine SinceOf.further ?_ _) | (with_reducible refine SinceOf.setCell ?_ (by first | exact Nat.le_refl _ | (simp; done) | omega | (simp; omega)) _)))⟩
      case round =>
        obtain ⟨j, rfl, hj, hg2, hpp, ⟨z2, rfl⟩⟩ := hrel
        have k1 : z2.wd.cell? ⟨g, off + i, none⟩ = some (.slice xA xs.length xc) := by rw [Since.cell]; exact k6
        by_cases hlt2 : j < xs.length
        · obtain ⟨g2, off2, hA2, hr2⟩ := (HE.out.2.of (w' := z2.wd) (by (repeat (first | (with_reducible exact SinceOf.refl _) | (with_reducible assumption) | (with_reducible refine SinceOf.alloc ?_ _) | (with_reducible refine SinceOf.drew ?_) | (with_reducible refine SinceOf.drewN ?_ _) | (with_reducible refine SinceOf.later ?_ _) | (with_reducible refine SinceOf.further ?_ _) | (with_reducible refine SinceOf.setCell ?_ (by first | exact Nat.le_refl _ | (simp; done) | omega | (simp; omega)) _))))).row.at_ (show 0 < xs.length by omega)
          have hO2 := hr2.there
          have a0 := hr2.v0 j hlt2
          have a1 := hr2.v1 j hlt2
          obtain ⟨p, hp⟩ : ∃ p, p = xs[j] := ⟨_, rfl⟩
          simp only at hA2 a0 a1
          subst hA2
          rw [← hp] at a0 a1
          have W6 := refWithin_any p.1 p.2 500
          have HQ := Lib.hid (And.intro hpp hp)
          clear hpp hp hr2
          obtain ⟨px, py⟩ := p
          simp only at a0 a1 W6
          cases hb : withinB px py 500
          · rw [hb] at W6
            clear hb
            clear k6
            go_wp2_with fail
            refine (W6 _).calls.mono ?_
            rintro e _ ⟨rfl, x7, rfl⟩
            go_wp2_with fail
            go_returns
            exact ⟨rfl, SinceOf.trans HS5.out (by (repeat (first | (with_reducible exact SinceOf.refl _) | (with_reducible assumption) | (with_reducible refine SinceOf.alloc ?_ _) | (with_reducible refine SinceOf.drew ?_) | (with_reducible refine SinceOf.drewN ?_ _) | (with_reducible refine SinceOf.later ?_ _) | (with_reducible refine SinceOf.further ?_ _) | (with_reducible refine SinceOf.setCell ?_ (by first | exact Nat.le_refl _ | (simp; done) | omega | (simp; omega)) _))))⟩
          · rw [hb] at W6
            have HB := Lib.hid (within500 hb)
            clear hb
            clear k6
            go_wp2_with fail
            refine (W6 _).calls.mono ?_
            rintro e _ ⟨rfl, x7, rfl⟩
            go_wp2_with fail
            go_roundg (xs.length - (j + 1))
            case measure => omega
            case rel => exact ⟨j + 1, by go_num, hlt2, Nat.le_refl _, fun q hq => by
                rw [List.take_succ_eq_append_getElem hlt2, ← HQ.out.2] at hq
                rcases List.mem_append.1 hq with e | e
                · exact HQ.out.1 q e
                · rw [List.mem_singleton.1 e]; exact HB.out, by (repeat (first | (with_reducible exact SinceOf.refl _) | (with_reducible assumption) | (with_reducible refine SinceOf.alloc ?_ _) | (with_reducible refine SinceOf.drew ?_) | (with_reducible refine SinceOf.drewN ?_ _) | (with_reducible refine SinceOf.later ?_ _) | (with_reducible refine SinceOf.further ?_ _) | (with_reducible refine SinceOf.setCell ?_ (by first | exact Nat.le_refl _ | (simp; done) | omega | (simp; omega)) _)))⟩
        · have hjl : j = xs.length := by omega
          have HQ := Lib.hid (show ∀ p ∈ xs, near 500 p by rw [hjl, List.take_length] at hpp; exact hpp)
          have g5 : decide ((j : Int) < (xs.length : Int)) = false := decide_eq_false (by omega)
          clear hpp hjl k6
          go_wp2_with fail
          go_roundg (L.length - (i + 1))
          case measure => omega
          case rel => exact ⟨i + 1, by go_num, hlt, Nat.le_refl _, HE.out.1 ⟨HV.out, HQ.out⟩, by (repeat (first | (with_reducible exact SinceOf.refl _) | (with_reducible assumption) | (with_reducible refine SinceOf.alloc ?_ _) | (with_reducible refine SinceOf.drew ?_) | (with_reducible refine SinceOf.drewN ?_ _) | (with_reducible refine SinceOf.later ?_ _) | (with_reducible refine SinceOf.further ?_ _) | (with_reducible refine SinceOf.setCell ?_ (by first | exact Nat.le_refl _ | (simp; done) | omega | (simp; omega)) _)))⟩
    · have hil : i = L.length := by omega
      subst hil
      rw [List.take_length] at hgood
      have hX1 : ∀ r ∈ vxs X, RingN 500 20 r := fun r hr => by
        obtain ⟨x, hx, rfl⟩ := mem_vxs.1 hr
        obtain ⟨q1, q2⟩ := hgood x (by rw [H.out.2.2.2.1]; exact List.mem_append_left _ hx)
        exact ⟨q1, q2, HF1.out.1 x hx⟩
      have hY1 : ∀ r ∈ vxs Y, RingN 500 20 r := fun r hr => by
        obtain ⟨x, hx, rfl⟩ := mem_vxs.1 hr
        obtain ⟨q1, q2⟩ := hgood x (by rw [H.out.2.2.2.1]; exact List.mem_append_right _ hx)
        exact ⟨q1, q2, HF2.out.1 x hx⟩
      have hXl : X.length ≤ 4 := HF1.out.2
      have hYl : Y.length ≤ 4 := HF2.out.2
      have hXY : X.length * Y.length ≤ 4 * 4 := Nat.mul_le_mul hXl hYl
      have hYX : Y.length * X.length ≤ 4 * 4 := Nat.mul_le_mul hYl hXl
      have HR := Lib.hid (And.intro hX1 (And.intro hY1 (And.intro hXY hYX)))
      have hsz : SinceOf w z.wd := SinceOf.trans HS5.out ⟨z, rfl⟩
      have HX := Lib.hid (H.out.1.of hsz)
      have HY := Lib.hid (H.out.2.1.of hsz)
      have HZ := Lib.hid hsz
      have zc0 : z.wd.cell? ⟨w.heap.size, 0, none⟩ = some (.int .i64 ax) := by rw [Since.cell]; exact hc50
      have zc1 : z.wd.cell? ⟨w.heap.size, 1, none⟩ = some (.int .i64 ay) := by rw [Since.cell]; exact hc51
      have zc2 : z.wd.cell? ⟨w.heap.size, 2, none⟩ = some (.int .i64 bx) := by rw [Since.cell]; exact hc52
      have zc3 : z.wd.cell? ⟨w.heap.size, 3, none⟩ = some (.int .i64 by') := by rw [Since.cell]; exact hc53
      have zo : Nonempty (Old z.wd w.heap.size) := inferInstance
      clear hgood hX1 hY1 hXY hYX hsz hc50 hc51 hc52 hc53 hi hgas hlt
      go_wp2_with fail
      refine (of_any A B c d X Y _ (HX.out.of (by (repeat (first | (with_reducible exact SinceOf.refl _) | (with_reducible assumption) | (with_reducible refine SinceOf.alloc ?_ _) | (with_reducible refine SinceOf.drew ?_) | (with_reducible refine SinceOf.drewN ?_ _) | (with_reducible refine SinceOf.later ?_ _) | (with_reducible refine SinceOf.further ?_ _) | (with_reducible refine SinceOf.setCell ?_ (by first | exact Nat.le_refl _ | (simp; done) | omega | (simp; omega)) _))))) (HY.out.of (by (repeat (first | (with_reducible exact SinceOf.refl _) | (with_reducible assumption) | (with_reducible refine SinceOf.alloc ?_ _) | (with_reducible refine SinceOf.drew ?_) | (with_reducible refine SinceOf.drewN ?_ _) | (with_reducible refine SinceOf.later ?_ _) | (with_reducible refine SinceOf.further ?_ _) | (with_reducible refine SinceOf.setCell ?_ (by first | exact Nat.le_refl _ | (simp; done) | omega | (simp; omega)) _))))) (by omega) (by omega)).mono ?_
      rintro e _ ⟨B1, d1, Z1, e1, rfl, hof1, hl1⟩
      obtain ⟨rfl, hn1, ho1⟩ : e1 = 0 ∧ Z1.length ≤ 16 ∧ OfIs (vxs X) (vxs Y) (vxs Z1) := by
        have q := hof1.ok (m := 500) (k := 500) (by omega) (by omega) (n := 20) (j := 20) (by omega) (by rw [vxs_len, vxs_len]; have := HR.out.2.2.1; omega) HR.out.1 HR.out.2.1
        refine ⟨q.1, ?_, q.2.2⟩
        have := q.2.1
        simp only [vxs_len] at this
        have := HR.out.2.2.1
        omega
      obtain ⟨hr1, -, -, hc1, ⟨y1, rfl⟩⟩ := hl1
      have HO1 := Lib.hid (And.intro ho1 hr1)
      clear hof1 ho1 hr1 hc1
      go_wp2_with fail
      refine (of_any B A d c Y X _ (HY.out.of (by (repeat (first | (with_reducible exact SinceOf.refl _) | (with_reducible assumption) | (with_reducible refine SinceOf.alloc ?_ _) | (with_reducible refine SinceOf.drew ?_) | (with_reducible refine SinceOf.drewN ?_ _) | (with_reducible refine SinceOf.later ?_ _) | (with_reducible refine SinceOf.further ?_ _) | (with_reducible refine SinceOf.setCell ?_ (by first | exact Nat.le_refl _ | (simp; done) | omega | (simp; omega)) _))))) (HX.out.of (by (repeat (first | (with_reducible exact SinceOf.refl _) | (with_reducible assumption) | (with_reducible refine SinceOf.alloc ?_ _) | (with_reducible refine SinceOf.drew ?_) | (with_reducible refine SinceOf.drewN ?_ _) | (with_reducible refine SinceOf.later ?_ _) | (with_reducible refine SinceOf.further ?_ _) | (with_reducible refine SinceOf.setCell ?_ (by first | exact Nat.le_refl _ | (simp; done) | omega | (simp; omega)) _))))) (by omega) (by omega)).mono ?_
      rintro e _ ⟨B2, d2, Z2, e2, rfl, hof2, hl2⟩
      obtain ⟨rfl, hn2, ho2⟩ : e2 = 0 ∧ Z2.length ≤ 16 ∧ OfIs (vxs Y) (vxs X) (vxs Z2) := by
        have q := hof2.ok (m := 500) (k := 500) (by omega) (by omega) (n := 20) (j := 20) (by omega) (by rw [vxs_len, vxs_len]; have := HR.out.2.2.2; omega) HR.out.2.1 HR.out.1
        refine ⟨q.1, ?_, q.2.2⟩
        have := q.2.1
        simp only [vxs_len] at this
        have := HR.out.2.2.2
        omega
      obtain ⟨hr2, -, -, hc2, ⟨y2, rfl⟩⟩ := hl2
      have HO2 := Lib.hid (And.intro ho2 hr2)
      clear hof2 ho2 hr2 hc2
      go_wp2_with fail
      refine (nofMove_any A c X bx by' _ (HX.out.of (by (repeat (first | (with_reducible exact SinceOf.refl _) | (with_reducible assumption) | (with_reducible refine SinceOf.alloc ?_ _) | (with_reducible refine SinceOf.drew ?_) | (with_reducible refine SinceOf.drewN ?_ _) | (with_reducible refine SinceOf.later ?_ _) | (with_reducible refine SinceOf.further ?_ _) | (with_reducible refine SinceOf.setCell ?_ (by first | exact Nat.le_refl _ | (simp; done) | omega | (simp; omega)) _))))) (by omega)).mono ?_
      rintro e _ ⟨B3, d3, Z3, e3, rfl, hmv, hl3⟩
      obtain ⟨rfl, hn3, hm1, hm2, hm3⟩ : e3 = 0 ∧ Z3.length ≤ 4 ∧ (∀ r' ∈ vxs Z3, ∃ r ∈ vxs X, HullY (r.map (fun p => addP p (bx, by'))) r') ∧ (∀ r ∈ vxs X, ∃ r' ∈ vxs Z3, HullY (r.map (fun p => addP p (bx, by'))) r') ∧ (∀ r' ∈ vxs Z3, RingN 1500 20 r') := by
        obtain ⟨q1, ts, q2, q3, q4, q5⟩ := hmv.ok (m := 500) (k := 1000) (by omega) (by omega) HW2.out HR.out.1
        simp only [List.nil_append] at q2
        subst q2
        refine ⟨q1, by simp only [vxs_len] at q3; omega, fun r' hr' => ?_, fun r hr => ?_, fun r' hr' => ?_⟩
        · obtain ⟨s, hs, a, b⟩ := q4 r' hr'; exact ⟨s, hs, a⟩
        · obtain ⟨s, hs, a, b⟩ := q5 r hr; exact ⟨s, hs, a⟩
        · obtain ⟨s, hs, a, b⟩ := q4 r' hr'; exact b
      obtain ⟨hr3, -, -, hc3, ⟨y3, rfl⟩⟩ := hl3
      have HO3 := Lib.hid (And.intro hm1 (And.intro hm2 (And.intro hm3 hr3)))
      clear hmv hm1 hm2 hm3 hr3 hc3
      go_wp2_with fail
      refine (of_any B3 B d3 d Z3 Y _ (HO3.out.2.2.2.of (by (repeat (first | (with_reducible exact SinceOf.refl _) | (with_reducible assumption) | (with_reducible refine SinceOf.alloc ?_ _) | (with_reducible refine SinceOf.drew ?_) | (with_reducible refine SinceOf.drewN ?_ _) | (with_reducible refine SinceOf.later ?_ _) | (with_reducible refine SinceOf.further ?_ _) | (with_reducible refine SinceOf.setCell ?_ (by first | exact Nat.le_refl _ | (simp; done) | omega | (simp; omega)) _))))) (HY.out.of (by (repeat (first | (with_reducible exact SinceOf.refl _) | (with_reducible assumption) | (with_reducible refine SinceOf.alloc ?_ _) | (with_reducible refine SinceOf.drew ?_) | (with_reducible refine SinceOf.drewN ?_ _) | (with_reducible refine SinceOf.later ?_ _) | (with_reducible refine SinceOf.further ?_ _) | (with_reducible refine SinceOf.setCell ?_ (by first | exact Nat.le_refl _ | (simp; done) | omega | (simp; omega)) _))))) (by omega) (by omega)).mono ?_
      rintro e _ ⟨B4, d4, Z4, e4, rfl, hof4, hl4⟩
      obtain ⟨rfl, ho4⟩ : e4 = 0 ∧ OfIs (vxs Z3) (vxs Y) (vxs Z4) := by
        have h16 : Z3.length * Y.length ≤ 4 * 4 := Nat.mul_le_mul hn3 hYl
        have q := hof4.ok (m := 1500) (k := 500) (by omega) (by omega) (n := 20) (j := 20) (by omega) (by rw [vxs_len, vxs_len]; omega) HO3.out.2.2.1 HR.out.2.1
        exact ⟨q.1, q.2.2⟩
      obtain ⟨hr4, -, -, hc4, ⟨y4, rfl⟩⟩ := hl4
      have HO4 := Lib.hid (And.intro ho4 hr4)
      clear hof4 ho4 hr4 hc4
      have na : near 8000 (ax, ay) := near_mono (by omega) HW1.out
      have s1 := HO1.out.1.swapF HO2.out.1 na
      have s2 := HO1.out.1.swapT HO2.out.1 na
      have s3 := HO1.out.1.movF HO4.out.1 HO3.out.1 HO3.out.2.1 na (by have q1 := HW1.out; have q2 := HW2.out; unfold near addP at *; simp only at *; omega)
      have en := wneg_near (near_mono (by omega) HW1.out : near 16000 (ax, ay))
      have ea := wadd_pt HW1.out HW2.out
      simp only at en ea
      have hz1 : ∀ x ∈ Z1, x.xs.length ≤ 100000 := fun x hx => by have := HO1.out.1.ring _ (mem_vxs.2 ⟨x, hx, rfl⟩); omega
      have hz2 : ∀ x ∈ Z2, x.xs.length ≤ 100000 := fun x hx => by have := HO2.out.1.ring _ (mem_vxs.2 ⟨x, hx, rfl⟩); omega
      have hz4 : ∀ x ∈ Z4, x.xs.length ≤ 100000 := fun x hx => by have := HO4.out.1.ring _ (mem_vxs.2 ⟨x, hx, rfl⟩); omega
      have NG := refNeg_any ax ay
      have AD := refAdd_any ax ay bx by'
      have F1 := fun W (hW : SinceOf y4.wd W) => forbidden_any B1 d1 Z1 ax ay W (HO1.out.2.of (SinceOf.trans (by (repeat (first | (with_reducible exact SinceOf.refl _) | (with_reducible assumption) | (with_reducible refine SinceOf.alloc ?_ _) | (with_reducible refine SinceOf.drew ?_) | (with_reducible refine SinceOf.drewN ?_ _) | (with_reducible refine SinceOf.later ?_ _) | (with_reducible refine SinceOf.further ?_ _) | (with_reducible refine SinceOf.setCell ?_ (by first | exact Nat.le_refl _ | (simp; done) | omega | (simp; omega)) _)))) hW)) hz1
      have F2 := fun W (hW : SinceOf y4.wd W) => forbidden_any B2 d2 Z2 ax ay W (HO2.out.2.of (SinceOf.trans (by (repeat (first | (with_reducible exact SinceOf.refl _) | (with_reducible assumption) | (with_reducible refine SinceOf.alloc ?_ _) | (with_reducible refine SinceOf.drew ?_) | (with_reducible refine SinceOf.drewN ?_ _) | (with_reducible refine SinceOf.later ?_ _) | (with_reducible refine SinceOf.further ?_ _) | (with_reducible refine SinceOf.setCell ?_ (by first | exact Nat.le_refl _ | (simp; done) | omega | (simp; omega)) _)))) hW)) hz2
      have F3 := fun W (hW : SinceOf y4.wd W) => forbidden_any B2 d2 Z2 (wneg ax) (wneg ay) W (HO2.out.2.of (SinceOf.trans (by (repeat (first | (with_reducible exact SinceOf.refl _) | (with_reducible assumption) | (with_reducible refine SinceOf.alloc ?_ _) | (with_reducible refine SinceOf.drew ?_) | (with_reducible refine SinceOf.drewN ?_ _) | (with_reducible refine SinceOf.later ?_ _) | (with_reducible refine SinceOf.further ?_ _) | (with_reducible refine SinceOf.setCell ?_ (by first | exact Nat.le_refl _ | (simp; done) | omega | (simp; omega)) _)))) hW)) hz2
      have F4 := fun W (hW : SinceOf y4.wd W) => forbidden_any B4 d4 Z4 (wadd ax bx) (wadd ay by') W (HO4.out.2.of hW) hz4
      have T1 := fun W (hW : SinceOf y4.wd W) => touches_any B1 d1 Z1 ax ay W (HO1.out.2.of (SinceOf.trans (by (repeat (first | (with_reducible exact SinceOf.refl _) | (with_reducible assumption) | (with_reducible refine SinceOf.alloc ?_ _) | (with_reducible refine SinceOf.drew ?_) | (with_reducible refine SinceOf.drewN ?_ _) | (with_reducible refine SinceOf.later ?_ _) | (with_reducible refine SinceOf.further ?_ _) | (with_reducible refine SinceOf.setCell ?_ (by first | exact Nat.le_refl _ | (simp; done) | omega | (simp; omega)) _)))) hW)) hz1
      have T2 := fun W (hW : SinceOf y4.wd W) => touches_any B2 d2 Z2 (wneg ax) (wneg ay) W (HO2.out.2.of (SinceOf.trans (by (repeat (first | (with_reducible exact SinceOf.refl _) | (with_reducible assumption) | (with_reducible refine SinceOf.alloc ?_ _) | (with_reducible refine SinceOf.drew ?_) | (with_reducible refine SinceOf.drewN ?_ _) | (with_reducible refine SinceOf.later ?_ _) | (with_reducible refine SinceOf.further ?_ _) | (with_reducible refine SinceOf.setCell ?_ (by first | exact Nat.le_refl _ | (simp; done) | omega | (simp; omega)) _)))) hW)) hz2
      have JN := fun W (hW : SinceOf y4.wd W) => join_any B1 B2 d1 d2 Z1 Z2 W (HO1.out.2.of (SinceOf.trans (by (repeat (first | (with_reducible exact SinceOf.refl _) | (with_reducible assumption) | (with_reducible refine SinceOf.alloc ?_ _) | (with_reducible refine SinceOf.drew ?_) | (with_reducible refine SinceOf.drewN ?_ _) | (with_reducible refine SinceOf.later ?_ _) | (with_reducible refine SinceOf.further ?_ _) | (with_reducible refine SinceOf.setCell ?_ (by first | exact Nat.le_refl _ | (simp; done) | omega | (simp; omega)) _)))) hW)) (HO2.out.2.of (SinceOf.trans (by (repeat (first | (with_reducible exact SinceOf.refl _) | (with_reducible assumption) | (with_reducible refine SinceOf.alloc ?_ _) | (with_reducible refine SinceOf.drew ?_) | (with_reducible refine SinceOf.drewN ?_ _) | (with_reducible refine SinceOf.later ?_ _) | (with_reducible refine SinceOf.further ?_ _) | (with_reducible refine SinceOf.setCell ?_ (by first | exact Nat.le_refl _ | (simp; done) | omega | (simp; omega)) _)))) hW)) (by omega) (by omega) hz1 hz2
      have JF := fun W (A7 : Option Addr) (d7 : Nat) (Z7 : List RgR) (hv : vxs Z7 = vxs Z1 ++ vxs Z2) (h7 : IsRings W A7 d7 Z7) => forbidden_any A7 d7 Z7 ax ay W h7 (fun x hx => by
        have : x.xs ∈ vxs Z7 := mem_vxs.2 ⟨x, hx, rfl⟩
        rw [hv] at this
        rcases List.mem_append.1 this with q | q
        · obtain ⟨x', hx', e⟩ := mem_vxs.1 q
          rw [← e]; exact hz1 x' hx'
        · obtain ⟨x', hx', e⟩ := mem_vxs.1 q
          rw [← e]; exact hz2 x' hx')
      rw [en, s1] at F3
      rw [en, s2] at T2
      rw [ea, s3] at F4
      have JF2 := fun W A7 d7 Z7 hv h7 => by
        have q := JF W A7 d7 Z7 hv h7
        rw [hv, forbB_append] at q
        exact q
      generalize forbB (vxs Z1) (ax, ay) = f1 at *
      generalize forbB (vxs Z2) (ax, ay) = f2 at *
      generalize touchB (vxs Z1) (ax, ay) = t1 at *
      generalize wneg ax = nx at *
      generalize wneg ay = ny at *
      generalize wadd ax bx = sx at *
      generalize wadd ay by' = sy at *
      clear s1 s2 s3 en ea JF na hz1 hz2 hz4
      have HJN := Lib.hid JN
      have HJF := Lib.hid JF2
      clear JN JF2
      go_wp2_with fail
      refine (F1 _ (by (repeat (first | (with_reducible exact SinceOf.refl _) | (with_reducible assumption) | (with_reducible refine SinceOf.alloc ?_ _) | (with_reducible refine SinceOf.drew ?_) | (with_reducible refine SinceOf.drewN ?_ _) | (with_reducible refine SinceOf.later ?_ _) | (with_reducible refine SinceOf.further ?_ _) | (with_reducible refine SinceOf.setCell ?_ (by first | exact Nat.le_refl _ | (simp; done) | omega | (simp; omega)) _))))).calls.mono ?_
      rintro e _ ⟨rfl, y5, rfl⟩
      clear F1
      have vc0 : y5.wd.cell? ⟨y4.wd.heap.size, 0, none⟩ = some (.int .i64 ax) := by rw [Later.cell]; simp
      have vc1 : y5.wd.cell? ⟨y4.wd.heap.size, 1, none⟩ = some (.int .i64 ay) := by rw [Later.cell]; simp
      have vb0 : y5.wd.cell? ⟨w.heap.size, 0, none⟩ = some (.int .i64 ax) := by rw [Later.cell, cell_old, Since.cell, Since.cell, Since.cell, Since.cell]; exact zc0
      have vb1 : y5.wd.cell? ⟨w.heap.size, 1, none⟩ = some (.int .i64 ay) := by rw [Later.cell, cell_old, Since.cell, Since.cell, Since.cell, Since.cell]; exact zc1
      have vb2 : y5.wd.cell? ⟨w.heap.size, 2, none⟩ = some (.int .i64 bx) := by rw [Later.cell, cell_old, Since.cell, Since.cell, Since.cell, Since.cell]; exact zc2
      have vb3 : y5.wd.cell? ⟨w.heap.size, 3, none⟩ = some (.int .i64 by') := by rw [Later.cell, cell_old, Since.cell, Since.cell, Since.cell, Since.cell]; exact zc3
      have vo1 : Nonempty (Old y5.wd y4.wd.heap.size) := inferInstance
      have vo2 : Nonempty (Old y5.wd w.heap.size) := inferInstance
      have hs54 : SinceOf y4.wd y5.wd := by (repeat (first | (with_reducible exact SinceOf.refl _) | (with_reducible assumption) | (with_reducible refine SinceOf.alloc ?_ _) | (with_reducible refine SinceOf.drew ?_) | (with_reducible refine SinceOf.drewN ?_ _) | (with_reducible refine SinceOf.later ?_ _) | (with_reducible refine SinceOf.further ?_ _) | (with_reducible refine SinceOf.setCell ?_ (by first | exact Nat.le_refl _ | (simp; done) | omega | (simp; omega)) _)))
      have HG := Lib.hid (And.intro hs54 (show SinceOf w y4.wd from SinceOf.trans HZ.out (by (repeat (first | (with_reducible exact SinceOf.refl _) | (with_reducible assumption) | (with_reducible refine SinceOf.alloc ?_ _) | (with_reducible refine SinceOf.drew ?_) | (with_reducible refine SinceOf.drewN ?_ _) | (with_reducible refine SinceOf.later ?_ _) | (with_reducible refine SinceOf.further ?_ _) | (with_reducible refine SinceOf.setCell ?_ (by first | exact Nat.le_refl _ | (simp; done) | omega | (simp; omega)) _))))))
      have G2 := fun W (hW : SinceOf y5.wd W) => F2 W (SinceOf.trans hs54 hW)
      have G3 := fun W (hW : SinceOf y5.wd W) => F3 W (SinceOf.trans hs54 hW)
      have G4 := fun W (hW : SinceOf y5.wd W) => F4 W (SinceOf.trans hs54 hW)
      have S1 := fun W (hW : SinceOf y5.wd W) => T1 W (SinceOf.trans hs54 hW)
      have S2 := fun W (hW : SinceOf y5.wd W) => T2 W (SinceOf.trans hs54 hW)
      clear zc0 zc1 zc2 zc3 hs54 F2 F3 F4 T1 T2
      obtain ⟨j1, hj1⟩ : ∃ j1, j1 = (f1 || f2) := ⟨_, rfl⟩
      have HJ := Lib.hid hj1
      clear hj1
      cases f1
      · obtain rfl : j1 = f2 := by rw [HJ.out]; simp
        clear HJ
        go_wp2_with fail
        go_region_held3 (fun w' => (w'.cell? ⟨y4.wd.heap.size, 0, none⟩ = some (.int .i64 ax) ∧ w'.cell? ⟨y4.wd.heap.size, 1, none⟩ = some (.int .i64 ay)) ∧ w'.cell? ⟨w.heap.size, 0, none⟩ = some (.int .i64 ax) ∧ w'.cell? ⟨w.heap.size, 1, none⟩ = some (.int .i64 ay) ∧ w'.cell? ⟨w.heap.size, 2, none⟩ = some (.int .i64 bx) ∧ w'.cell? ⟨w.heap.size, 3, none⟩ = some (.int .i64 by')) ((simp [go_sem, *]))
          (first
            | (go_at_call 52; refine (NG _).calls.mono ?_; rintro e _ ⟨rfl, z1, rfl⟩)
            | (go_at_call 28; refine (AD _).calls.mono ?_; rintro e _ ⟨rfl, z2, rfl⟩)
            | (go_at_call 40; (with_reducible refine (G3 _ (by (repeat (first | (with_reducible exact SinceOf.refl _) | (with_reducible assumption) | (with_reducible refine SinceOf.alloc ?_ _) | (with_reducible refine SinceOf.drew ?_) | (with_reducible refine SinceOf.drewN ?_ _) | (with_reducible refine SinceOf.later ?_ _) | (with_reducible refine SinceOf.further ?_ _) | (with_reducible refine SinceOf.setCell ?_ (by first | exact Nat.le_refl _ | (simp; done) | omega | (simp; omega)) _))))).calls.mono ?_); rintro e _ ⟨rfl, z3, rfl⟩)
            | (go_at_call 40; (with_reducible refine (G4 _ (by (repeat (first | (with_reducible exact SinceOf.refl _) | (with_reducible assumption) | (with_reducible refine SinceOf.alloc ?_ _) | (with_reducible refine SinceOf.drew ?_) | (with_reducible refine SinceOf.drewN ?_ _) | (with_reducible refine SinceOf.later ?_ _) | (with_reducible refine SinceOf.further ?_ _) | (with_reducible refine SinceOf.setCell ?_ (by first | exact Nat.le_refl _ | (simp; done) | omega | (simp; omega)) _))))).calls.mono ?_); rintro e _ ⟨rfl, z4, rfl⟩)
            | (go_at_call 40; (with_reducible refine (G2 _ (by (repeat (first | (with_reducible exact SinceOf.refl _) | (with_reducible assumption) | (with_reducible refine SinceOf.alloc ?_ _) | (with_reducible refine SinceOf.drew ?_) | (with_reducible refine SinceOf.drewN ?_ _) | (with_reducible refine SinceOf.later ?_ _) | (with_reducible refine SinceOf.further ?_ _) | (with_reducible refine SinceOf.setCell ?_ (by first | exact Nat.le_refl _ | (simp; done) | omega | (simp; omega)) _))))).calls.mono ?_); rintro e _ ⟨rfl, z5, rfl⟩)
            | (go_at_call 53; refine (HJN.out _ (SinceOf.trans HG.out.1 (by (repeat (first | (with_reducible exact SinceOf.refl _) | (with_reducible assumption) | (with_reducible refine SinceOf.alloc ?_ _) | (with_reducible refine SinceOf.drew ?_) | (with_reducible refine SinceOf.drewN ?_ _) | (with_reducible refine SinceOf.later ?_ _) | (with_reducible refine SinceOf.further ?_ _) | (with_reducible refine SinceOf.setCell ?_ (by first | exact Nat.le_refl _ | (simp; done) | omega | (simp; omega)) _)))))).mono ?_; rintro e _ ⟨A7, d7, Z7, rfl, hz7, hr7, hc7, ⟨z7, rfl⟩⟩; (have HZ7 := Lib.hid (And.intro hz7 hr7)); clear hz7 hr7 hc7)
            | (go_at_call 40; refine (HJF.out _ A7 d7 Z7 HZ7.out.1 (HZ7.out.2.of (by (repeat (first | (with_reducible exact SinceOf.refl _) | (with_reducible assumption) | (with_reducible refine SinceOf.alloc ?_ _) | (with_reducible refine SinceOf.drew ?_) | (with_reducible refine SinceOf.drewN ?_ _) | (with_reducible refine SinceOf.later ?_ _) | (with_reducible refine SinceOf.further ?_ _) | (with_reducible refine SinceOf.setCell ?_ (by first | exact Nat.le_refl _ | (simp; done) | omega | (simp; omega)) _)))))).calls.mono ?_; rintro e _ ⟨rfl, z6, rfl⟩)
            | (go_at_call 44; (with_reducible refine (S1 _ (by (repeat (first | (with_reducible exact SinceOf.refl _) | (with_reducible assumption) | (with_reducible refine SinceOf.alloc ?_ _) | (with_reducible refine SinceOf.drew ?_) | (with_reducible refine SinceOf.drewN ?_ _) | (with_reducible refine SinceOf.later ?_ _) | (with_reducible refine SinceOf.further ?_ _) | (with_reducible refine SinceOf.setCell ?_ (by first | exact Nat.le_refl _ | (simp; done) | omega | (simp; omega)) _))))).calls.mono ?_); rintro e _ ⟨rfl, z8, rfl⟩)
            | (go_at_call 44; (with_reducible refine (S2 _ (by (repeat (first | (with_reducible exact SinceOf.refl _) | (with_reducible assumption) | (with_reducible refine SinceOf.alloc ?_ _) | (with_reducible refine SinceOf.drew ?_) | (with_reducible refine SinceOf.drewN ?_ _) | (with_reducible refine SinceOf.later ?_ _) | (with_reducible refine SinceOf.further ?_ _) | (with_reducible refine SinceOf.setCell ?_ (by first | exact Nat.le_refl _ | (simp; done) | omega | (simp; omega)) _))))).calls.mono ?_); rintro e _ ⟨rfl, z9, rfl⟩))
        all_goals (go_wp2_with fail; go_returns; exact ⟨by first | rfl | simp, SinceOf.trans HG.out.2 (by (repeat (first | (with_reducible exact SinceOf.refl _) | (with_reducible assumption) | (with_reducible refine SinceOf.alloc ?_ _) | (with_reducible refine SinceOf.drew ?_) | (with_reducible refine SinceOf.drewN ?_ _) | (with_reducible refine SinceOf.later ?_ _) | (with_reducible refine SinceOf.further ?_ _) | (with_reducible refine SinceOf.setCell ?_ (by first | exact Nat.le_refl _ | (simp; done) | omega | (simp; omega)) _))))⟩)
      · have HJF3 := Lib.hid (fun W A7 d7 Z7 h1 h2 => HJF.out W A7 d7 Z7 h1 h2 : ∀ (W : World) (A7 : Option Addr) (d7 : Nat) (Z7 : List RgR), vxs Z7 = vxs Z1 ++ vxs Z2 → IsRings W A7 d7 Z7 → Gives Try.prog 40 #[.slice A7 Z7.length d7, vv ax ay] W (.bool true))
        clear HJ HJF
        go_wp2_with fail
        refine wp_region_held_drew (S := (fun w' => (w'.cell? ⟨y4.wd.heap.size, 0, none⟩ = some (.int .i64 ax) ∧ w'.cell? ⟨y4.wd.heap.size, 1, none⟩ = some (.int .i64 ay)) ∧ w'.cell? ⟨w.heap.size, 0, none⟩ = some (.int .i64 ax) ∧ w'.cell? ⟨w.heap.size, 1, none⟩ = some (.int .i64 ay) ∧ w'.cell? ⟨w.heap.size, 2, none⟩ = some (.int .i64 bx) ∧ w'.cell? ⟨w.heap.size, 3, none⟩ = some (.int .i64 by'))) (by kernel_rfl) ?_ (fun hHeld0 => ?_)
        · simp [go_sem, *]
        refine take_at (i := 0) (d := some 121) (v := ?_) rfl rfl (by kernel_rfl) (by kernel_rfl) (by kernel_rfl) (fun _ _ _ h => h) (Or.inl ⟨by rfl, ?_⟩) (by assumption) ?_
        rotate_left 1
        · (intro w hSw; (try dsimp only at hSw); go_simp) <;> (with_reducible rfl)
        (try simp only [Act.put, List.setIfInBounds_toArray, List.set_cons_zero, List.set_cons_succ])
        refine take_at (i := 1) (d := some 122) (v := ?_) rfl rfl (by kernel_rfl) (by kernel_rfl) (by kernel_rfl) (fun _ _ _ h => h) (Or.inl ⟨by rfl, ?_⟩) (by assumption) ?_
        rotate_left 1
        · (intro w hSw; (try dsimp only at hSw); go_simp) <;> (with_reducible rfl)
        (try simp only [Act.put, List.setIfInBounds_toArray, List.set_cons_zero, List.set_cons_succ])
        refine take_at (i := 4) (d := some 125) (v := ?_) rfl rfl (by kernel_rfl) (by kernel_rfl) (by kernel_rfl) (fun _ _ _ h => h) (Or.inl ⟨by rfl, ?_⟩) (by assumption) ?_
        rotate_left 1
        · (intro w hSw; (try dsimp only at hSw); go_simp) <;> (with_reducible rfl)
        (try simp only [Act.put, List.setIfInBounds_toArray, List.set_cons_zero, List.set_cons_succ])
        refine step_at (i := 2) (by kernel_rfl) rfl (fun K' hK => ?_)
        go_simp
        refine (NG _).calls.mono ?_; rintro e _ ⟨rfl, z1, rfl⟩
        go_wp2_with fail
        refine hK.out _ _ ?_ (fun hHeld1 => ?_)
        · simp [go_sem, hHeld0]
        clear hK K' hHeld0
        refine step_at (i := 3) (by kernel_rfl) rfl (fun K' hK => ?_)
        go_simp
        refine (G3 _ (by (repeat (first | (with_reducible exact SinceOf.refl _) | (with_reducible assumption) | (with_reducible refine SinceOf.alloc ?_ _) | (with_reducible refine SinceOf.drew ?_) | (with_reducible refine SinceOf.drewN ?_ _) | (with_reducible refine SinceOf.later ?_ _) | (with_reducible refine SinceOf.further ?_ _) | (with_reducible refine SinceOf.setCell ?_ (by first | exact Nat.le_refl _ | (simp; done) | omega | (simp; omega)) _))))).calls.mono ?_; rintro e _ ⟨rfl, z3, rfl⟩
        go_wp2_with fail
        refine hK.out _ _ ?_ (fun hHeld2 => ?_)
        · simp [go_sem, hHeld1]
        clear hK K' hHeld1
        refine take_at (i := 5) (d := some 126) (v := ?_) rfl rfl (by kernel_rfl) (by kernel_rfl) (by kernel_rfl) (fun _ _ _ h => h) (Or.inl ⟨by rfl, ?_⟩) (by assumption) ?_
        rotate_left 1
        · (intro w hSw; (try dsimp only at hSw); go_simp) <;> (with_reducible rfl)
        (try simp only [Act.put, List.setIfInBounds_toArray, List.set_cons_zero, List.set_cons_succ])
        refine take_at (i := 6) (d := some 127) (v := ?_) rfl rfl (by kernel_rfl) (by kernel_rfl) (by kernel_rfl) (fun _ _ _ h => h) (Or.inl ⟨by rfl, ?_⟩) (by assumption) ?_
        rotate_left 1
        · (intro w hSw; (try dsimp only at hSw); go_simp) <;> (with_reducible rfl)
        (try simp only [Act.put, List.setIfInBounds_toArray, List.set_cons_zero, List.set_cons_succ])
        refine take_at (i := 7) (d := some 128) (v := ?_) rfl rfl (by kernel_rfl) (by kernel_rfl) (by kernel_rfl) (fun _ _ _ h => h) (Or.inl ⟨by rfl, ?_⟩) (by assumption) ?_
        rotate_left 1
        · (intro w hSw; (try dsimp only at hSw); go_simp) <;> (with_reducible rfl)
        (try simp only [Act.put, List.setIfInBounds_toArray, List.set_cons_zero, List.set_cons_succ])
        refine take_at (i := 8) (d := some 129) (v := ?_) rfl rfl (by kernel_rfl) (by kernel_rfl) (by kernel_rfl) (fun _ _ _ h => h) (Or.inl ⟨by rfl, ?_⟩) (by assumption) ?_
        rotate_left 1
        · (intro w hSw; (try dsimp only at hSw); go_simp) <;> (with_reducible rfl)
        (try simp only [Act.put, List.setIfInBounds_toArray, List.set_cons_zero, List.set_cons_succ])
        refine take_at (i := 9) (d := some 130) (v := ?_) rfl rfl (by kernel_rfl) (by kernel_rfl) (by kernel_rfl) (fun _ _ _ h => h) (Or.inl ⟨by rfl, ?_⟩) (by assumption) ?_
        rotate_left 1
        · (intro w hSw; (try dsimp only at hSw); go_simp) <;> (with_reducible rfl)
        (try simp only [Act.put, List.setIfInBounds_toArray, List.set_cons_zero, List.set_cons_succ])
        refine take_at (i := 10) (d := some 131) (v := ?_) rfl rfl (by kernel_rfl) (by kernel_rfl) (by kernel_rfl) (fun _ _ _ h => h) (Or.inl ⟨by rfl, ?_⟩) (by assumption) ?_
        rotate_left 1
        · (intro w hSw; (try dsimp only at hSw); go_simp) <;> (with_reducible rfl)
        (try simp only [Act.put, List.setIfInBounds_toArray, List.set_cons_zero, List.set_cons_succ])
        refine take_at (i := 13) (d := some 134) (v := ?_) rfl rfl (by kernel_rfl) (by kernel_rfl) (by kernel_rfl) (fun _ _ _ h => h) (Or.inl ⟨by rfl, ?_⟩) (by assumption) ?_
        rotate_left 1
        · (intro w hSw; (try dsimp only at hSw); go_simp) <;> (with_reducible rfl)
        (try simp only [Act.put, List.setIfInBounds_toArray, List.set_cons_zero, List.set_cons_succ])
        refine step_at (i := 11) (by kernel_rfl) rfl (fun K' hK => ?_)
        go_simp
        refine (AD _).calls.mono ?_; rintro e _ ⟨rfl, z2, rfl⟩
        go_wp2_with fail
        refine hK.out _ _ ?_ (fun hHeld3 => ?_)
        · simp [go_sem, hHeld2]
        clear hK K' hHeld2
        refine step_at (i := 12) (by kernel_rfl) rfl (fun K' hK => ?_)
        go_simp
        refine (G4 _ (by (repeat (first | (with_reducible exact SinceOf.refl _) | (with_reducible assumption) | (with_reducible refine SinceOf.alloc ?_ _) | (with_reducible refine SinceOf.drew ?_) | (with_reducible refine SinceOf.drewN ?_ _) | (with_reducible refine SinceOf.later ?_ _) | (with_reducible refine SinceOf.further ?_ _) | (with_reducible refine SinceOf.setCell ?_ (by first | exact Nat.le_refl _ | (simp; done) | omega | (simp; omega)) _))))).calls.mono ?_; rintro e _ ⟨rfl, z4, rfl⟩
        go_wp2_with fail
        refine hK.out _ _ ?_ (fun hHeld4 => ?_)
        · simp [go_sem, hHeld3]
        clear hK K' hHeld3
        refine take_at (i := 14) (d := some 135) (v := ?_) rfl rfl (by kernel_rfl) (by kernel_rfl) (by kernel_rfl) (fun _ _ _ h => h) (Or.inl ⟨by rfl, ?_⟩) (by assumption) ?_
        rotate_left 1
        · (intro w hSw; (try dsimp only at hSw); go_simp) <;> (with_reducible rfl)
        (try simp only [Act.put, List.setIfInBounds_toArray, List.set_cons_zero, List.set_cons_succ])
        refine take_at (i := 15) (d := some 136) (v := ?_) rfl rfl (by kernel_rfl) (by kernel_rfl) (by kernel_rfl) (fun _ _ _ h => h) (Or.inl ⟨by rfl, ?_⟩) (by assumption) ?_
        rotate_left 1
        · (intro w hSw; (try dsimp only at hSw); go_simp) <;> (with_reducible rfl)
        (try simp only [Act.put, List.setIfInBounds_toArray, List.set_cons_zero, List.set_cons_succ])
        refine take_at (i := 16) (d := some 137) (v := ?_) rfl rfl (by kernel_rfl) (by kernel_rfl) (by kernel_rfl) (fun _ _ _ h => h) (Or.inl ⟨by rfl, ?_⟩) (by assumption) ?_
        rotate_left 1
        · (intro w hSw; (try dsimp only at hSw); go_simp) <;> (with_reducible rfl)
        (try simp only [Act.put, List.setIfInBounds_toArray, List.set_cons_zero, List.set_cons_succ])
        refine take_at (i := 17) (d := some 138) (v := ?_) rfl rfl (by kernel_rfl) (by kernel_rfl) (by kernel_rfl) (fun _ _ _ h => h) (Or.inl ⟨by rfl, ?_⟩) (by assumption) ?_
        rotate_left 1
        · (intro w hSw; (try dsimp only at hSw); go_simp) <;> (with_reducible rfl)
        (try simp only [Act.put, List.setIfInBounds_toArray, List.set_cons_zero, List.set_cons_succ])
        refine take_at (i := 18) (d := some 139) (v := ?_) rfl rfl (by kernel_rfl) (by kernel_rfl) (by kernel_rfl) (fun _ _ _ h => h) (Or.inl ⟨by rfl, ?_⟩) (by assumption) ?_
        rotate_left 1
        · (intro w hSw; (try dsimp only at hSw); go_simp) <;> (with_reducible rfl)
        (try simp only [Act.put, List.setIfInBounds_toArray, List.set_cons_zero, List.set_cons_succ])
        refine take_at (i := 20) (d := some 141) (v := ?_) rfl rfl (by kernel_rfl) (by kernel_rfl) (by kernel_rfl) (fun _ _ _ h => h) (Or.inl ⟨by rfl, ?_⟩) (by assumption) ?_
        rotate_left 1
        · (intro w hSw; (try dsimp only at hSw); go_simp) <;> (with_reducible rfl)
        (try simp only [Act.put, List.setIfInBounds_toArray, List.set_cons_zero, List.set_cons_succ])
        refine take_at (i := 22) (d := some 143) (v := ?_) rfl rfl (by kernel_rfl) (by kernel_rfl) (by kernel_rfl) (fun _ _ _ h => h) (Or.inl ⟨by rfl, ?_⟩) (by assumption) ?_
        rotate_left 1
        · (intro w hSw; (try dsimp only at hSw); go_simp) <;> (with_reducible rfl)
        (try simp only [Act.put, List.setIfInBounds_toArray, List.set_cons_zero, List.set_cons_succ])
        refine step_at (i := 19) (by kernel_rfl) rfl (fun K' hK => ?_)
        go_simp
        refine (HJN.out _ (SinceOf.trans HG.out.1 (by (repeat (first | (with_reducible exact SinceOf.refl _) | (with_reducible assumption) | (with_reducible refine SinceOf.alloc ?_ _) | (with_reducible refine SinceOf.drew ?_) | (with_reducible refine SinceOf.drewN ?_ _) | (with_reducible refine SinceOf.later ?_ _) | (with_reducible refine SinceOf.further ?_ _) | (with_reducible refine SinceOf.setCell ?_ (by first | exact Nat.le_refl _ | (simp; done) | omega | (simp; omega)) _)))))).mono ?_; rintro e _ ⟨A7, d7, Z7, rfl, hz7, hr7, hc7, ⟨z7, rfl⟩⟩; (have HZ7 := Lib.hid (And.intro hz7 hr7)); clear hz7 hr7 hc7
        go_wp2_with fail
        refine hK.out _ _ ?_ (fun hHeld5 => ?_)
        · simp [go_sem, hHeld4]
        clear hK K' hHeld4
        refine step_at (i := 21) (by kernel_rfl) rfl (fun K' hK => ?_)
        go_simp
        refine (HJF3.out _ A7 d7 Z7 HZ7.out.1 (HZ7.out.2.of (by (repeat (first | (with_reducible exact SinceOf.refl _) | (with_reducible assumption) | (with_reducible refine SinceOf.alloc ?_ _) | (with_reducible refine SinceOf.drew ?_) | (with_reducible refine SinceOf.drewN ?_ _) | (with_reducible refine SinceOf.later ?_ _) | (with_reducible refine SinceOf.further ?_ _) | (with_reducible refine SinceOf.setCell ?_ (by first | exact Nat.le_refl _ | (simp; done) | omega | (simp; omega)) _)))))).calls.mono ?_; rintro e _ ⟨rfl, z6, rfl⟩
        go_wp2_with fail
        refine hK.out _ _ ?_ (fun hHeld6 => ?_)
        · simp [go_sem, hHeld5]
        clear hK K' hHeld5
        refine take_at (i := 23) (d := some 144) (v := ?_) rfl rfl (by kernel_rfl) (by kernel_rfl) (by kernel_rfl) (fun _ _ _ h => h) (Or.inl ⟨by rfl, ?_⟩) (by assumption) ?_
        rotate_left 1
        · (intro w hSw; (try dsimp only at hSw); go_simp) <;> (with_reducible rfl)
        (try simp only [Act.put, List.setIfInBounds_toArray, List.set_cons_zero, List.set_cons_succ])
        refine take_at (i := 24) (d := some 145) (v := undef) rfl rfl (by kernel_rfl) (by kernel_rfl) (by kernel_rfl) (fun _ _ _ h => h) (Or.inr ⟨by rfl, rfl⟩) (by assumption) ?_
        (try simp only [Act.put, List.setIfInBounds_toArray, List.set_cons_zero, List.set_cons_succ])
        refine take_at (i := 25) (d := some 146) (v := undef) rfl rfl (by kernel_rfl) (by kernel_rfl) (by kernel_rfl) (fun _ _ _ h => h) (Or.inr ⟨by rfl, rfl⟩) (by assumption) ?_
        (try simp only [Act.put, List.setIfInBounds_toArray, List.set_cons_zero, List.set_cons_succ])
        refine step_at (i := 26) (by kernel_rfl) rfl (fun K' hK => ?_)
        go_simp
        refine hK.out _ _ ?_ (fun hHeld7 => ?_)
        · simp [go_sem, hHeld6]
        clear hK K' hHeld6
        refine take_at (i := 27) (d := some 148) (v := ?_) rfl rfl (by kernel_rfl) (by kernel_rfl) (by kernel_rfl) (fun _ _ _ h => h) (Or.inl ⟨by rfl, ?_⟩) (by assumption) ?_
        rotate_left 1
        · (intro w hSw; (try dsimp only at hSw); go_simp) <;> (with_reducible rfl)
        (try simp only [Act.put, List.setIfInBounds_toArray, List.set_cons_zero, List.set_cons_succ])
        refine take_at (i := 28) (d := some 149) (v := ?_) rfl rfl (by kernel_rfl) (by kernel_rfl) (by kernel_rfl) (fun _ _ _ h => h) (Or.inl ⟨by rfl, ?_⟩) (by assumption) ?_
        rotate_left 1
        · (intro w hSw; (try dsimp only at hSw); go_simp) <;> (with_reducible rfl)
        (try simp only [Act.put, List.setIfInBounds_toArray, List.set_cons_zero, List.set_cons_succ])
        refine take_at (i := 29) (d := some 150) (v := ?_) rfl rfl (by kernel_rfl) (by kernel_rfl) (by kernel_rfl) (fun _ _ _ h => h) (Or.inl ⟨by rfl, ?_⟩) (by assumption) ?_
        rotate_left 1
        · (intro w hSw; (try dsimp only at hSw); go_simp) <;> (with_reducible rfl)
        (try simp only [Act.put, List.setIfInBounds_toArray, List.set_cons_zero, List.set_cons_succ])
        refine take_at (i := 30) (d := some 151) (v := ?_) rfl rfl (by kernel_rfl) (by kernel_rfl) (by kernel_rfl) (fun _ _ _ h => h) (Or.inl ⟨by rfl, ?_⟩) (by assumption) ?_
        rotate_left 1
        · (intro w hSw; (try dsimp only at hSw); go_simp) <;> (with_reducible rfl)
        (try simp only [Act.put, List.setIfInBounds_toArray, List.set_cons_zero, List.set_cons_succ])
        refine take_at (i := 31) (d := some 152) (v := ?_) rfl rfl (by kernel_rfl) (by kernel_rfl) (by kernel_rfl) (fun _ _ _ h => h) (Or.inl ⟨by rfl, ?_⟩) (by assumption) ?_
        rotate_left 1
        · (intro w hSw; (try dsimp only at hSw); go_simp) <;> (with_reducible rfl)
        (try simp only [Act.put, List.setIfInBounds_toArray, List.set_cons_zero, List.set_cons_succ])
        refine take_at (i := 32) (d := some 153) (v := ?_) rfl rfl (by kernel_rfl) (by kernel_rfl) (by kernel_rfl) (fun _ _ _ h => h) (Or.inl ⟨by rfl, ?_⟩) (by assumption) ?_
        rotate_left 1
        · (intro w hSw; (try dsimp only at hSw); go_simp) <;> (with_reducible rfl)
        (try simp only [Act.put, List.setIfInBounds_toArray, List.set_cons_zero, List.set_cons_succ])
        refine take_at (i := 34) (d := some 155) (v := ?_) rfl rfl (by kernel_rfl) (by kernel_rfl) (by kernel_rfl) (fun _ _ _ h => h) (Or.inl ⟨by rfl, ?_⟩) (by assumption) ?_
        rotate_left 1
        · (intro w hSw; (try dsimp only at hSw); go_simp) <;> (with_reducible rfl)
        (try simp only [Act.put, List.setIfInBounds_toArray, List.set_cons_zero, List.set_cons_succ])
        refine take_at (i := 35) (d := some 156) (v := ?_) rfl rfl (by kernel_rfl) (by kernel_rfl) (by kernel_rfl) (fun _ _ _ h => h) (Or.inl ⟨by rfl, ?_⟩) (by assumption) ?_
        rotate_left 1
        · (intro w hSw; (try dsimp only at hSw); go_simp) <;> (with_reducible rfl)
        (try simp only [Act.put, List.setIfInBounds_toArray, List.set_cons_zero, List.set_cons_succ])
        refine step_at (i := 33) (by kernel_rfl) rfl (fun K' hK => ?_)
        go_simp
        refine (S1 _ (by (repeat (first | (with_reducible exact SinceOf.refl _) | (with_reducible assumption) | (with_reducible refine SinceOf.alloc ?_ _) | (with_reducible refine SinceOf.drew ?_) | (with_reducible refine SinceOf.drewN ?_ _) | (with_reducible refine SinceOf.later ?_ _) | (with_reducible refine SinceOf.further ?_ _) | (with_reducible refine SinceOf.setCell ?_ (by first | exact Nat.le_refl _ | (simp; done) | omega | (simp; omega)) _))))).calls.mono ?_; rintro e _ ⟨rfl, z8, rfl⟩
        go_wp2_with fail
        refine hK.out _ _ ?_ (fun hHeld8 => ?_)
        · simp [go_sem, hHeld7]
        clear hK K' hHeld7
        refine step_at (i := 36) (by kernel_rfl) rfl (fun K' hK => ?_)
        go_simp
        refine (NG _).calls.mono ?_; rintro e _ ⟨rfl, z5, rfl⟩
        go_wp2_with fail
        refine hK.out _ _ ?_ (fun hHeld9 => ?_)
        · simp [go_sem, hHeld8]
        clear hK K' hHeld8
        refine step_at (i := 37) (by kernel_rfl) rfl (fun K' hK => ?_)
        go_simp
        refine (S2 _ (by (repeat (first | (with_reducible exact SinceOf.refl _) | (with_reducible assumption) | (with_reducible refine SinceOf.alloc ?_ _) | (with_reducible refine SinceOf.drew ?_) | (with_reducible refine SinceOf.drewN ?_ _) | (with_reducible refine SinceOf.later ?_ _) | (with_reducible refine SinceOf.further ?_ _) | (with_reducible refine SinceOf.setCell ?_ (by first | exact Nat.le_refl _ | (simp; done) | omega | (simp; omega)) _))))).calls.mono ?_; rintro e _ ⟨rfl, z9, rfl⟩
        go_wp2_with fail
        refine hK.out _ _ ?_ (fun hHeld10 => ?_)
        · simp [go_sem, hHeld9]
        clear hK K' hHeld9
        refine take_at (i := 38) (d := some 159) (v := ?_) rfl rfl (by kernel_rfl) (by kernel_rfl) (by kernel_rfl) (fun _ _ _ h => h) (Or.inl ⟨by rfl, ?_⟩) (by assumption) ?_
        rotate_left 1
        · (intro w hSw; (try dsimp only at hSw); go_simp) <;> (with_reducible rfl)
        (try simp only [Act.put, List.setIfInBounds_toArray, List.set_cons_zero, List.set_cons_succ])
        refine take_at (i := 39) (d := some 160) (v := ?_) rfl rfl (by kernel_rfl) (by kernel_rfl) (by kernel_rfl) (fun _ _ _ h => h) (Or.inl ⟨by rfl, ?_⟩) (by assumption) ?_
        rotate_left 1
        · (intro w hSw; (try dsimp only at hSw); go_simp) <;> (with_reducible rfl)
        (try simp only [Act.put, List.setIfInBounds_toArray, List.set_cons_zero, List.set_cons_succ])
        refine take_at (i := 40) (d := some 6) (v := ?_) rfl rfl (by kernel_rfl) (by kernel_rfl) (by kernel_rfl) (fun _ _ _ h => h) (Or.inl ⟨by rfl, ?_⟩) (by assumption) ?_
        rotate_left 1
        · (intro w hSw; (try dsimp only at hSw); go_simp) <;> (with_reducible rfl)
        (try simp only [Act.put, List.setIfInBounds_toArray, List.set_cons_zero, List.set_cons_succ])
        refine wpAnyH_done (by kernel_rfl) ?_ _
        all_goals (go_wp2_with fail; go_returns; exact ⟨by first | rfl | simp, SinceOf.trans HG.out.2 (by (repeat (first | (with_reducible exact SinceOf.refl _) | (with_reducible assumption) | (with_reducible refine SinceOf.alloc ?_ _) | (with_reducible refine SinceOf.drew ?_) | (with_reducible refine SinceOf.drewN ?_ _) | (with_reducible refine SinceOf.later ?_ _) | (with_reducible refine SinceOf.further ?_ _) | (with_reducible refine SinceOf.setCell ?_ (by first | exact Nat.le_refl _ | (simp; done) | omega | (simp; omega)) _))))⟩)
end Go.Proofs.Ytbienlhofkfdpaa
