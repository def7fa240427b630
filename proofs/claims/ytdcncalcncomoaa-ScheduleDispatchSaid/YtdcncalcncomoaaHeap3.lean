/- The heap of times: Len, Pop. -/
import Derived.Test.YtdcncalcncomoaaHeap2
namespace Go.Proofs.Ytdcncalcncomoaa
open Go.RowKit
set_option linter.unusedVariables false
attribute [local go_sem ↓] Go.wp_at_zero Go.wp_at_succ

theorem hlen_any (g : Nat) (A : Option Addr) (n c : Nat) (next : Int) (w : World) (h : HeapC w g A n c next) : Gives Try.prog 99 #[.pointer (some ⟨g, 0, none⟩)] w (.int .i64 n) := by
  apply Gives.ret
  obtain ⟨c0, c1, c2, f1, f2, hO⟩ := h
  go_enter Try.func99, Try.ntmps99
  go_wp2_with fail
  go_returns
  exact ⟨rfl, by (repeat (first | (with_reducible exact LaterOf.refl _) | (with_reducible refine LaterOf.alloc ?_ _) | (with_reducible refine LaterOf.drew ?_) | (with_reducible refine LaterOf.drewN ?_ _) | (with_reducible refine LaterOf.later ?_ _) | (with_reducible refine LaterOf.setCell ?_ (by first | exact Nat.le_refl _ | (simp; done) | omega | (simp; omega)) _)))⟩
set_option maxHeartbeats 1000000 in
theorem pop_none (B g : Nat) (next : Int) (w : World) (h : HeapIs w B g [] next) : Gives Try.prog 90 #[.pointer (some ⟨g, 0, none⟩)] w (.tuple #[.int .i64 0, .bool false]) := by
  apply Gives.ret
  obtain ⟨A, c, hc, ho, -, -⟩ := h
  have HL := fun W (hW : SinceOf w W) => hlen_any g A 0 c next W (hc.of hW)
  have hO := hc.there
  clear hc ho
  go_enter Try.func90, Try.ntmps90
  go_wp2_with fail
  refine (HL _ (by (repeat (first | (with_reducible exact SinceOf.refl _) | (with_reducible assumption) | (with_reducible refine SinceOf.alloc ?_ _) | (with_reducible refine SinceOf.drew ?_) | (with_reducible refine SinceOf.drewN ?_ _) | (with_reducible refine SinceOf.later ?_ _) | (with_reducible refine SinceOf.further ?_ _) | (with_reducible refine SinceOf.setCell ?_ (by first | exact Nat.le_refl _ | (simp; done) | omega | (simp; omega)) _))))).calls.mono ?_
  rintro e _ ⟨rfl, x1, rfl⟩
  go_wp2_with fail
  go_returns
  exact ⟨rfl, by (repeat (first | (with_reducible exact LaterOf.refl _) | (with_reducible refine LaterOf.alloc ?_ _) | (with_reducible refine LaterOf.drew ?_) | (with_reducible refine LaterOf.drewN ?_ _) | (with_reducible refine LaterOf.later ?_ _) | (with_reducible refine LaterOf.setCell ?_ (by first | exact Nat.le_refl _ | (simp; done) | omega | (simp; omega)) _)))⟩
theorem Owns.take {α : Type} {enc : α → List Value} {k base : Nat} {e : TypeId} {w : World} {A : Option Addr} {c : Nat} {l : List α} (hk : ∀ x, (enc x).length = k) (h : Owns enc k base e w A c l) (n : Nat) (hn : n ≤ l.length) (hA : A ≠ none) : Owns enc k base e w A c (l.take n) := by
  obtain ⟨h1, h2⟩ := h
  have hl : (l.take n).length = n := by rw [List.length_take]; omega
  refine ⟨by rw [flat_length hk], ?_⟩
  rcases h2 with ⟨h2, h3⟩ | ⟨g, cap, cur, hv, hb, hg, hnc, hm, hs, ht⟩
  · simp only [Value.slice.injEq] at h2; exact absurd h2.1 hA
  · simp only [Value.slice.injEq, true_and] at hv
    obtain ⟨rfl, rfl⟩ := hv
    refine .inr ⟨g, c, cur, by rw [hl], hb, hg, by rw [hl]; omega, hm, hs, ?_⟩
    rw [hl]
    apply List.ext_getElem?
    intro j
    by_cases hj : j < n * k
    · rw [List.getElem?_take, if_pos hj]
      have hk0 : 0 < k := by
        rcases Nat.eq_zero_or_pos k with h | h
        · rw [h, Nat.mul_zero] at hj; omega
        · exact h
      have hlt : j < l.length * k := Nat.lt_of_lt_of_le hj (Nat.mul_le_mul_right _ hn)
      have e1 : cur.toList[j]? = (l.flatMap enc)[j]? := by rw [← ht, List.getElem?_take, if_pos hlt]
      rw [e1]
      have hd : j / k < n := Nat.div_lt_of_lt_mul (by rw [Nat.mul_comm]; exact hj)
      have hm2 := Nat.mod_lt j hk0
      have h3 := flat_get hk l (j / k) (by omega) (j % k) hm2
      have h4 := flat_get hk (l.take n) (j / k) (by rw [hl]; exact hd) (j % k) hm2
      rw [Nat.mul_comm, Nat.div_add_mod] at h3 h4
      rw [h3, h4, List.getElem_take]
    · rw [List.getElem?_eq_none (by rw [List.length_take]; omega), List.getElem?_eq_none (by rw [flat_length hk, hl]; omega)]
def Kid (L : List (Int × Int)) (m k p : Nat) (b : Bool) : Prop := (b = true → k < m ∧ hx L k ≤ hx L p) ∧ (b = false → k < m → hx L p ≤ hx L k)
def Best1 (L : List (Int × Int)) (m i p : Nat) : Prop := (p = i ∧ (2 * i + 1 < m → hx L i ≤ hx L (2 * i + 1))) ∨ (p = 2 * i + 1 ∧ p < m ∧ hx L p ≤ hx L i)
def Best2 (L : List (Int × Int)) (m i q : Nat) : Prop := (q = i ∧ ∀ j, 0 < j → j < m → (j - 1) / 2 = i → hx L i ≤ hx L j) ∨ (i < q ∧ q < m ∧ (q - 1) / 2 = i ∧ hx L q ≤ hx L i ∧ ∀ j, 0 < j → j < m → (j - 1) / 2 = i → hx L q ≤ hx L j)
theorem best1_of {L : List (Int × Int)} {m i : Nat} {b : Bool} (h : Kid L m (2 * i + 1) i b) : Best1 L m i (if b = true then 2 * i + 1 else i) := by
  cases b
  · exact .inl ⟨rfl, h.2 rfl⟩
  · exact .inr ⟨rfl, (h.1 rfl).1, (h.1 rfl).2⟩
theorem best2_of {L : List (Int × Int)} {m i p : Nat} {b : Bool} (h1 : Best1 L m i p) (h : Kid L m (2 * i + 2) p b) : Best2 L m i (if b = true then 2 * i + 2 else p) := by
  have kid : ∀ j, 0 < j → (j - 1) / 2 = i → j = 2 * i + 1 ∨ j = 2 * i + 2 := by intro j _ _; omega
  cases b
  · rw [if_neg (by simp)]
    rcases h1 with ⟨rfl, h1⟩ | ⟨rfl, h1, h2⟩
    · refine .inl ⟨rfl, fun j j0 hj e => ?_⟩
      rcases kid j j0 e with rfl | rfl
      · exact h1 hj
      · exact h.2 rfl hj
    · refine .inr ⟨by omega, h1, by omega, h2, fun j j0 hj e => ?_⟩
      rcases kid j j0 e with rfl | rfl
      · exact Int.le_refl _
      · exact h.2 rfl hj
  · rw [if_pos rfl]
    obtain ⟨ha, hb⟩ := h.1 rfl
    rcases h1 with ⟨rfl, h1⟩ | ⟨rfl, h1, h2⟩
    · refine .inr ⟨by omega, ha, by omega, hb, fun j j0 hj e => ?_⟩
      rcases kid j j0 e with rfl | rfl
      · exact Int.le_trans hb (h1 hj)
      · exact Int.le_refl _
    · refine .inr ⟨by omega, ha, by omega, Int.le_trans hb h2, fun j j0 hj e => ?_⟩
      rcases kid j j0 e with rfl | rfl
      · exact hb
      · exact Int.le_refl _
theorem kid_of {L : List (Int × Int)} {m k p : Nat} (hL : L.length = m) (hk : k < m) (hp : p < m) : Kid L m k p (aheadB (L[k]'(by omega)) (L[p]'(by omega))) := by
  constructor
  · intro e
    refine ⟨hk, ?_⟩
    rw [hx_at (by omega), hx_at (by omega)]; exact aheadB_yes e
  · intro e _
    rw [hx_at (by omega), hx_at (by omega)]; exact aheadB_no e
theorem kid_no {L : List (Int × Int)} {m k p : Nat} (hk : ¬ k < m) : Kid L m k p false := ⟨fun h => by simp at h, fun _ h => absurd h hk⟩
set_option maxRecDepth 100000 in
set_option maxHeartbeats 8000000 in
theorem pop_some (B g : Nat) (L : List (Int × Int)) (next : Int) (w : World) (h : HeapIs w B g L next) (hord : HeapOrd L) (hL : L.length < 1099511627776) (hn : 0 < L.length) :
    Calls Try.prog 90 #[.pointer (some ⟨g, 0, none⟩)] w fun e w' => e = .returned (.tuple #[.int .i64 (hx L 0), .bool true]) ∧ ∃ L', HeapIs w' B g L' next ∧ HeapOrd L' ∧ (L.getD 0 (0, 0) :: L').Perm L ∧ Below B w w' := by
  obtain ⟨A, c, hc, ho, hBg, hAg⟩ := h
  obtain ⟨m, hm⟩ : ∃ m, L.length = m + 1 := ⟨L.length - 1, by omega⟩
  have HL := fun W (hW : SinceOf w W) => hlen_any g A L.length c next W (hc.of hW)
  have hglt := hc.there.elim fun q => q.lt
  have hcap := ho.le_cap
  obtain ⟨gr, e2, hgr, hlv⟩ := ho.live encV_len hn
  subst e2
  have hgn : gr ≠ g := fun e => hAg (by rw [e]; rfl)
  have hc' := hc
  obtain ⟨c0, c1, c2, f1, f2, hO⟩ := hc
  have hOr := hlv.row.there
  have hdn := HeapDown.start hord hn
  have htp := take_perm hn
  have hx0 : hx L 0 = L[0].1 := hx_at hn
  have hgl : L.getD (L.length - 1) (0, 0) = L[m] := by rw [List.getD_eq_getElem?_getD, List.getElem?_eq_getElem (by omega), Option.getD_some]; congr 1; omega
  rw [hgl, show L.length - 1 = m from by omega] at hdn htp
  have x0 := hlv.row.v0 0 hn
  have y0 := hlv.row.v1 0 hn
  have xm := hlv.row.v0 m (by omega)
  have ym := hlv.row.v1 m (by omega)
  have fx0 := hlv.free 0 (by omega)
  have fy0 := hlv.free 1 (by omega)
  simp only [Nat.zero_add, Nat.zero_mul] at x0 y0 xm ym fx0 fy0
  have hap : Nonempty (Apart g gr) := ⟨⟨by omega⟩⟩
  have hset := fun W (hW : SinceOf w W) => (ho.of hW).setV 0 hn L[m].1 L[m].2
  simp only [Nat.zero_mul, Nat.zero_add] at hset
  obtain ⟨⟨px, pn⟩, hp⟩ : ∃ q, q = L[m] := ⟨_, rfl⟩
  rw [← hp] at xm ym hdn htp hset
  simp only at xm ym hset
  have hmL : m + 1 < 1099511627776 := by omega
  rw [hm] at hcap c1 HL hc'
  have HS := Lib.hid hset
  have HK := Lib.hid (And.intro hc' (And.intro hdn (And.intro htp (And.intro hm ho))))
  obtain ⟨v0, hv0⟩ : ∃ v, v = L[0].1 := ⟨_, rfl⟩
  obtain ⟨v1, hv1⟩ : ∃ v, v = L[0].2 := ⟨_, rfl⟩
  rw [← hv0] at x0
  rw [← hv1] at y0
  rw [hx0.trans hv0.symm]
  clear hdn htp hx0 hgl hset hlv hp ho hc' hord hm hL hn hv0 hv1
  have hz : ((m : Int) + 1 == 0) = false := by rw [beq_eq_false_iff_ne]; omega
  go_enter Try.func90, Try.ntmps90
  go_wp2_with fail
  refine (HL _ (by (repeat (first | (with_reducible exact SinceOf.refl _) | (with_reducible assumption) | (with_reducible refine SinceOf.alloc ?_ _) | (with_reducible refine SinceOf.drew ?_) | (with_reducible refine SinceOf.drewN ?_ _) | (with_reducible refine SinceOf.later ?_ _) | (with_reducible refine SinceOf.further ?_ _) | (with_reducible refine SinceOf.setCell ?_ (by first | exact Nat.le_refl _ | (simp; done) | omega | (simp; omega)) _))))).calls.mono ?_
  rintro e _ ⟨rfl, x1, rfl⟩
  go_upto_region 5 with fail
  go_cut [] (fun wx => HeapC wx g (some ⟨gr, 0, none⟩) (m + 1) c next ∧ OwnsE B wx (some ⟨gr, 0, none⟩) c (L.set 0 (px, pn)) ∧ Below B w wx)
  case first =>
    go_big_region
    all_goals go_wp2_with fail
    all_goals go_meet
    all_goals
      have hg2 : x1.wd.grownBy _ (some gr) := (grownBy_setCell (p := ⟨gr, 0, none⟩) rfl (.int .i64 px)).trans (grownBy_setCell (p := ⟨gr, 1, none⟩) rfl (.int .i64 pn))
      have hcc := HK.out.1.of (LaterOf.since ⟨x1, rfl⟩)
      have hcc2 := HeapC.setRow hcc hg2 (by omega)
      refine ⟨hcc2.of ((SinceOf.refl _).drew), ?_, ?_⟩
      · have hs1 : OwnsE B _ (some ⟨gr, 0, none⟩) c _ := HS.out x1.wd (LaterOf.since ⟨x1, rfl⟩)
        exact hs1.drew
      · have hb9 := x1.below.mono (B' := B) (by omega)
        exact (hb9.grown hg2 (by have := hb9.size; omega) (fun q e => by cases e; omega)).drew
  case rest =>
    obtain ⟨hc4, ho4, hb4⟩ := hcut
    clear c0 c1 c2 f1 f2 fx0 fy0 xm ym x0 y0 hO hOr
    obtain ⟨hc0, hdn, htp, hm, ho⟩ := HK.out
    obtain ⟨L4, hL4⟩ : ∃ l, l = L.set 0 (px, pn) := ⟨_, rfl⟩
    rw [← hL4] at ho4 hdn htp
    have hl4 : L4.length = m + 1 := by rw [hL4, List.length_set]; exact hm
    obtain ⟨gq, eq1, -, hlv⟩ := ho4.live encV_len (by omega)
    simp only [Option.some.injEq, Addr.mk.injEq, and_true] at eq1
    subst eq1
    have hOr := hlv.row.there
    have xm := hlv.row.v0 m (by omega)
    have ym := hlv.row.v1 m (by omega)
    have fxm := hlv.free (m * 2) (by omega)
    have fym := hlv.free (m * 2 + 1) (by omega)
    simp only [Nat.zero_add] at xm ym fxm fym
    have hst := (((ho4.setV m (by omega) 0 0).setCell_other (p := ⟨g, 1, none⟩) (by simpa [blockOf] using hgn) (.slice (some ⟨gr, 0, none⟩) m c))).take encV_len m (by simp; omega) (by simp)
    have hcst := HeapC.setSlice (n' := m) (HeapC.setRow hc4 ((grownBy_setCell (p := ⟨gr, m * 2, none⟩) rfl (.int .i64 0)).trans (grownBy_setCell (p := ⟨gr, m * 2 + 1, none⟩) rfl (.int .i64 0))) (show g ≠ gr by omega)) (some ⟨gr, 0, none⟩) c
    have hbst := ((hb4.setCell (p := ⟨gr, m * 2, none⟩) (show B ≤ gr by omega) (.int .i64 0)).setCell (p := ⟨gr, m * 2 + 1, none⟩) (show B ≤ gr by omega) (.int .i64 0)).setCell (p := ⟨g, 1, none⟩) hBg (.slice (some ⟨gr, 0, none⟩) m c)
    rw [show (L4.set m (0, 0)).take m = L4.take m from by rw [List.take_set_of_le (Nat.le_refl _)]] at hst
    have htl : (L4.take m).length = m := by rw [List.length_take]; omega
    have HM := Lib.hid (And.intro hst (And.intro hcst (And.intro hbst (And.intro hdn (And.intro htp htl)))))
    obtain ⟨c0, c1, c2, f1, f2, hO⟩ := hc4
    generalize L4[m].1 = q1 at *
    generalize L4[m].2 = q2 at *
    clear ho4 hb4 hdn htp hlv hst hcst hbst hl4 hL4 hc0 hm ho htl HS HK hz
    go_wp2_with fail
    go_loopg [2, 5] m (fun gas s2 s5 wr => ∃ (i : Nat) (L2 : List (Int × Int)), s2 = .int .i64 v0 ∧ s5 = .int .i64 i ∧ m - i ≤ gas ∧ i ≤ m ∧ L2.length = m ∧ HeapC wr g (some ⟨gr, 0, none⟩) m c next ∧ OwnsE B wr (some ⟨gr, 0, none⟩) c L2 ∧ HeapDown L2 i ∧ L2.Perm (L4.take m) ∧ Below B w wr)
    case atStart => exact ⟨0, L4.take m, rfl, rfl, by omega, by omega, HM.out.2.2.2.2.2, HM.out.2.1, HM.out.1, HM.out.2.2.2.1, List.Perm.refl _, HM.out.2.2.1⟩
    case round =>
      clear c0 c1 c2 f1 f2 xm ym fxm fym
      obtain ⟨i, L2, rfl, rfl, hgas, him, hl2, hc5, ho5, hdn, hpm, hb5⟩ := hrel
      obtain ⟨ws, rfl⟩ : ∃ ws, ws = wr := ⟨_, rfl⟩
      have AH := fun (a b : Nat) (ha : a < m) (hb : b < m) W (hW : SinceOf ws W) => ahead_any g (some ⟨gr, 0, none⟩) c next L2 a b (by omega) (by omega) (by omega) W (by rw [hl2]; exact hc5.of hW) ((ho5.isRow encV_len).of hW)
      have HN := Lib.hid (And.intro hc5 (And.intro ho5 (And.intro hdn (And.intro hpm (And.intro hb5 hl2)))))
      have hOg := hc5.there
      clear hc5 ho5 hdn hpm hb5
      go_upto_region 11 with fail
      go_cut [66] (fun s66 wx => ∃ b : Bool, s66 = .bool b ∧ Kid L2 m (2 * i + 1) i b ∧ LaterOf ws wx)
      case first =>
        by_cases h1 : 2 * i + 1 < m
        · have A1 := AH (2 * i + 1) i h1 (by omega)
          have K1 := kid_of (L := L2) hl2 h1 (show i < m by omega)
          rw [show ((2 * i + 1 : Nat) : Int) = 2 * (i : Int) + 1 by omega] at A1
          generalize aheadB (L2[2 * i + 1]'(by omega)) (L2[i]'(by omega)) = b1 at *
          have HK1 := Lib.hid K1
          have hd : decide (2 * (i : Int) + 1 < (m : Int)) = true := by simp; omega
          clear K1 AH hl2
          go_wp2_with fail
          (with_reducible refine (A1 _ (by (repeat (first | (with_reducible exact SinceOf.refl _) | (with_reducible assumption) | (with_reducible refine SinceOf.alloc ?_ _) | (with_reducible refine SinceOf.drew ?_) | (with_reducible refine SinceOf.drewN ?_ _) | (with_reducible refine SinceOf.later ?_ _) | (with_reducible refine SinceOf.further ?_ _) | (with_reducible refine SinceOf.setCell ?_ (by first | exact Nat.le_refl _ | (simp; done) | omega | (simp; omega)) _))))).calls.mono ?_)
          rintro e _ ⟨rfl, x2, rfl⟩
          go_wp2_with fail
          go_meet
          exact ⟨b1, rfl, HK1.out, by (repeat (first | (with_reducible exact LaterOf.refl _) | (with_reducible refine LaterOf.alloc ?_ _) | (with_reducible refine LaterOf.drew ?_) | (with_reducible refine LaterOf.drewN ?_ _) | (with_reducible refine LaterOf.later ?_ _) | (with_reducible refine LaterOf.setCell ?_ (by first | exact Nat.le_refl _ | (simp; done) | omega | (simp; omega)) _)))⟩
        · have hd : decide (2 * (i : Int) + 1 < (m : Int)) = false := by simp; omega
          clear AH hl2
          go_wp2_with fail
          go_meet
          exact ⟨false, rfl, kid_no h1, by (repeat (first | (with_reducible exact LaterOf.refl _) | (with_reducible refine LaterOf.alloc ?_ _) | (with_reducible refine LaterOf.drew ?_) | (with_reducible refine LaterOf.drewN ?_ _) | (with_reducible refine LaterOf.later ?_ _) | (with_reducible refine LaterOf.setCell ?_ (by first | exact Nat.le_refl _ | (simp; done) | omega | (simp; omega)) _)))⟩
      case rest =>
        obtain ⟨b1, rfl, hk1, ⟨x2, rfl⟩⟩ := hcut
        have HB1 := Lib.hid (best1_of hk1)
        clear hk1
        go_upto_if 66 with fail
        go_cut [6] (fun s6 wx => ∃ p : Nat, s6 = .int .i64 p ∧ Best1 L2 m i p ∧ LaterOf ws wx)
        case first =>
          clear AH
          cases b1
          · go_wp2_with fail
            go_meet
            exact ⟨i, rfl, HB1.out, by (repeat (first | (with_reducible exact LaterOf.refl _) | (with_reducible refine LaterOf.alloc ?_ _) | (with_reducible refine LaterOf.drew ?_) | (with_reducible refine LaterOf.drewN ?_ _) | (with_reducible refine LaterOf.later ?_ _) | (with_reducible refine LaterOf.setCell ?_ (by first | exact Nat.le_refl _ | (simp; done) | omega | (simp; omega)) _)))⟩
          · go_wp2_with fail
            go_meet
            exact ⟨2 * i + 1, (by congr 1), HB1.out, by (repeat (first | (with_reducible exact LaterOf.refl _) | (with_reducible refine LaterOf.alloc ?_ _) | (with_reducible refine LaterOf.drew ?_) | (with_reducible refine LaterOf.drewN ?_ _) | (with_reducible refine LaterOf.later ?_ _) | (with_reducible refine LaterOf.setCell ?_ (by first | exact Nat.le_refl _ | (simp; done) | omega | (simp; omega)) _)))⟩
        case rest =>
          clear HB1
          obtain ⟨p, rfl, hp1, ⟨x3, rfl⟩⟩ := hcut
          have hpm : 2 * i + 2 < m → p < m := by intro h; unfold Best1 at hp1; omega
          have HP := Lib.hid hp1
          clear hp1
          go_upto_region 14 with fail
          go_cut [79] (fun s79 wx => ∃ b : Bool, s79 = .bool b ∧ Kid L2 m (2 * i + 2) p b ∧ LaterOf ws wx)
          case first =>
            by_cases h1 : 2 * i + 2 < m
            · have A1 := AH (2 * i + 2) p h1 (hpm h1)
              have K1 := kid_of (L := L2) hl2 h1 (hpm h1)
              rw [show ((2 * i + 2 : Nat) : Int) = 2 * (i : Int) + 2 by omega] at A1
              generalize aheadB (L2[2 * i + 2]'(by omega)) (L2[p]'(by have := hpm h1; omega)) = b2 at *
              have HK1 := Lib.hid K1
              have hd : decide (2 * (i : Int) + 2 < (m : Int)) = true := by simp; omega
              clear K1 AH hl2 hpm
              go_wp2_with fail
              (with_reducible refine (A1 _ (by (repeat (first | (with_reducible exact SinceOf.refl _) | (with_reducible assumption) | (with_reducible refine SinceOf.alloc ?_ _) | (with_reducible refine SinceOf.drew ?_) | (with_reducible refine SinceOf.drewN ?_ _) | (with_reducible refine SinceOf.later ?_ _) | (with_reducible refine SinceOf.further ?_ _) | (with_reducible refine SinceOf.setCell ?_ (by first | exact Nat.le_refl _ | (simp; done) | omega | (simp; omega)) _))))).calls.mono ?_)
              rintro e _ ⟨rfl, x4, rfl⟩
              go_wp2_with fail
              go_meet
              exact ⟨b2, rfl, HK1.out, by (repeat (first | (with_reducible exact LaterOf.refl _) | (with_reducible refine LaterOf.alloc ?_ _) | (with_reducible refine LaterOf.drew ?_) | (with_reducible refine LaterOf.drewN ?_ _) | (with_reducible refine LaterOf.later ?_ _) | (with_reducible refine LaterOf.setCell ?_ (by first | exact Nat.le_refl _ | (simp; done) | omega | (simp; omega)) _)))⟩
            · have hd : decide (2 * (i : Int) + 2 < (m : Int)) = false := by simp; omega
              clear AH hl2 hpm
              go_wp2_with fail
              go_meet
              exact ⟨false, rfl, kid_no h1, by (repeat (first | (with_reducible exact LaterOf.refl _) | (with_reducible refine LaterOf.alloc ?_ _) | (with_reducible refine LaterOf.drew ?_) | (with_reducible refine LaterOf.drewN ?_ _) | (with_reducible refine LaterOf.later ?_ _) | (with_reducible refine LaterOf.setCell ?_ (by first | exact Nat.le_refl _ | (simp; done) | omega | (simp; omega)) _)))⟩
          case rest =>
            obtain ⟨b2, rfl, hk2, ⟨x4, rfl⟩⟩ := hcut
            have HB2 := Lib.hid (best2_of HP.out hk2)
            clear hk2 AH HP hpm
            go_upto_if 79 with fail
            go_cut [6] (fun s6 wx => ∃ q : Nat, s6 = .int .i64 q ∧ Best2 L2 m i q ∧ LaterOf ws wx)
            case first =>
              cases b2
              · go_wp2_with fail
                go_meet
                exact ⟨p, rfl, HB2.out, by (repeat (first | (with_reducible exact LaterOf.refl _) | (with_reducible refine LaterOf.alloc ?_ _) | (with_reducible refine LaterOf.drew ?_) | (with_reducible refine LaterOf.drewN ?_ _) | (with_reducible refine LaterOf.later ?_ _) | (with_reducible refine LaterOf.setCell ?_ (by first | exact Nat.le_refl _ | (simp; done) | omega | (simp; omega)) _)))⟩
              · go_wp2_with fail
                go_meet
                exact ⟨2 * i + 2, (by congr 1), HB2.out, by (repeat (first | (with_reducible exact LaterOf.refl _) | (with_reducible refine LaterOf.alloc ?_ _) | (with_reducible refine LaterOf.drew ?_) | (with_reducible refine LaterOf.drewN ?_ _) | (with_reducible refine LaterOf.later ?_ _) | (with_reducible refine LaterOf.setCell ?_ (by first | exact Nat.le_refl _ | (simp; done) | omega | (simp; omega)) _)))⟩
            case rest =>
              clear HB2
              obtain ⟨q, rfl, hq, ⟨x5, rfl⟩⟩ := hcut
              rcases hq with ⟨rfl, hq⟩ | ⟨hiq, hqm, hqi, hqle, hq⟩
              · have hord := HN.out.2.2.1.done (fun j j0 hj e => hq j j0 (by rw [← hl2]; exact hj) e)
                have HO := Lib.hid hord
                clear hord hq
                go_wp2_with fail
                go_returns
                exact ⟨rfl, L2, ⟨_, _, by rw [hl2]; exact HN.out.1.of (LaterOf.since ⟨x5, rfl⟩), HN.out.2.1.of (LaterOf.since ⟨x5, rfl⟩), hBg, hAg⟩, HO.out, (List.Perm.cons _ HN.out.2.2.2.1).trans HM.out.2.2.2.2.1, HN.out.2.2.2.2.1.trans (x5.below.mono (by have := HN.out.2.2.2.2.1.size; omega))⟩
              · have hsw := HN.out.2.2.1.swap (b := q) (by omega) (by omega) hqi (fun j j0 hj e => hq j j0 (by rw [← hl2]; exact hj) e) hqle
                have hsp := (swapL_perm (L := L2) (i := i) (k := q) (by omega) (by omega)).trans HN.out.2.2.2.1
                have hsl := swapL_length L2 i q
                have hse : swapL L2 i q = (L2.set i (L2[q]'(by omega))).set q (L2[i]'(by omega)) := by unfold swapL; rw [List.getD_eq_getElem?_getD, List.getElem?_eq_getElem (by omega), Option.getD_some, List.getD_eq_getElem?_getD, List.getElem?_eq_getElem (by omega), Option.getD_some]
                have hlv := (HN.out.2.1.live encV_len (by omega))
                obtain ⟨gq, eq1, -, hlv⟩ := hlv
                simp only [Option.some.injEq, Addr.mk.injEq, and_true] at eq1
                subst eq1
                have hOr := hlv.row.there
                have i0' := hlv.row.v0 i (by omega)
                have i1' := hlv.row.v1 i (by omega)
                have u0' := hlv.row.v0 q (by omega)
                have u1' := hlv.row.v1 q (by omega)
                have fi0 := hlv.free (i * 2) (by omega)
                have fi1 := hlv.free (i * 2 + 1) (by omega)
                have fu0 := hlv.free (q * 2) (by omega)
                have fu1 := hlv.free (q * 2 + 1) (by omega)
                simp only [Nat.zero_add] at i0' i1' u0' u1' fi0 fi1 fu0 fu1
                have S1 := fun W (hW : SinceOf ws W) => ((HN.out.2.1.of hW).setV i (by omega) (L2[q]'(by omega)).1 (L2[q]'(by omega)).2).setV q (by simp; omega) (L2[i]'(by omega)).1 (L2[i]'(by omega)).2
                obtain ⟨⟨ix, im⟩, hi'⟩ : ∃ q, q = (L2[i]'(by omega)) := ⟨_, rfl⟩
                obtain ⟨⟨ux, um⟩, hu'⟩ : ∃ r, r = (L2[q]'(by omega)) := ⟨_, rfl⟩
                rw [← hi', ← hu'] at hse
                simp only [← hi', ← hu'] at S1
                rw [← hi'] at i0' i1'
                rw [← hu'] at u0' u1'
                simp only at i0' i1' u0' u1'
                have HS := Lib.hid (And.intro S1 (And.intro hsw (And.intro hsp (And.intro hsl hse))))
                obtain ⟨c0, c1, c2, f1, f2, hO⟩ := HN.out.1
                have hne : ((q : Int) == (i : Int)) = false := by rw [beq_eq_false_iff_ne]; omega
                have hne2 : i ≠ q := by omega
                have hi1 : i < m := by omega
                clear S1 hsw hsp hsl hse hlv hi' hu' hq hqle hqi
                go_upto_region 18 with fail
                go_cut [] (fun wx => HeapC wx g (some ⟨gr, 0, none⟩) m c next ∧ OwnsE B wx (some ⟨gr, 0, none⟩) c (swapL L2 i q) ∧ Below B w wx)
                case first =>
                  go_big_region
                  all_goals go_wp2_with fail
                  all_goals go_meet
                  all_goals
                    have hg4 : x5.wd.grownBy _ (some gr) := (((grownBy_setCell (p := ⟨gr, i * 2, none⟩) rfl (.int .i64 ux)).trans (grownBy_setCell (p := ⟨gr, i * 2 + 1, none⟩) rfl (.int .i64 um))).trans (grownBy_setCell (p := ⟨gr, q * 2, none⟩) rfl (.int .i64 ix))).trans (grownBy_setCell (p := ⟨gr, q * 2 + 1, none⟩) rfl (.int .i64 im))
                    have hcc := HN.out.1.of (LaterOf.since ⟨x5, rfl⟩)
                    have hcc2 := HeapC.setRow hcc hg4 (by omega)
                    refine ⟨hcc2.of ((SinceOf.refl _).drew), ?_, ?_⟩
                    · have hs1 : OwnsE B _ (some ⟨gr, 0, none⟩) c _ := HS.out.1 x5.wd (LaterOf.since ⟨x5, rfl⟩)
                      rw [← HS.out.2.2.2.2] at hs1
                      exact hs1.drew
                    · have hb9 := HN.out.2.2.2.2.1.trans (x5.below.mono (B' := B) (by have := HN.out.2.2.2.2.1.size; omega))
                      exact (hb9.grown hg4 (by have := hb9.size; omega) (fun q e => by cases e; omega)).drew
                case rest =>
                  obtain ⟨hc7, ho7, hb7⟩ := hcut
                  have HQ := Lib.hid (And.intro hc7 (And.intro ho7 hb7))
                  clear hc7 ho7 hb7 c0 c1 c2 f1 f2 i0' i1' u0' u1' fi0 fi1 fu0 fu1
                  go_wp2_with fail
                  go_roundg (m - q)
                  case measure => omega
                  case rel => exact ⟨q, swapL L2 i q, rfl, rfl, Nat.le_refl _, by omega, by rw [HS.out.2.2.2.1]; exact hl2, HQ.out.1, HQ.out.2.1, HS.out.2.1, HS.out.2.2.1, HQ.out.2.2⟩
end Go.Proofs.Ytdcncalcncomoaa
