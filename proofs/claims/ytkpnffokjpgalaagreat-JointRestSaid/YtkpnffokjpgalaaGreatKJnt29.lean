/- Layer 46: Gaps of the program. -/
import Derived.Test.YtkpnffokjpgalaaGreatKJnt28
namespace Go.Proofs.YtkpnffokjpgalaaGreat
set_option linter.unusedVariables false
set_option linter.unusedSimpArgs false
open Go.RowKit Go.Sort
attribute [local go_sem ↓] Go.wp_at_zero Go.wp_at_succ

/-- What Gaps answers. -/
def GapsE (w : World) (o : List SegP × Int) (e : Ending) (w' : World) : Prop := ∃ A' c', e = .returned (.tuple #[.slice A' o.1.length c', .int .i64 o.2]) ∧ OwnSegs w.heap.size w' A' c' o.1 ∧ o.1.length ≤ 40 ∧ SinceOf w w'
set_option maxRecDepth 100000 in
set_option maxHeartbeats 16000000 in
theorem gaps_any (A : Option Addr) (c : Nat) (r : List (Int × Int)) (n : Int) (w : World) (h : IsVecs w A c r) (hlen : r.length < 4611686018427387904) :
    Calls Tryz.prog 10 #[.slice A r.length c, .int .i64 n] w (GapsE w (gapsR r n)) := by
  have V := fun W (hW : SinceOf w W) => ringValid_any A c r W (h.of hW) hlen
  have H := Lib.hid h
  clear h
  generalize hres : gapsR r n = res
  have HR := Lib.hid hres
  clear hres
  cases hok : okB r
  · obtain rfl : res = ([], 11) := by rw [← HR.out]; unfold gapsR; rw [hok, if_neg Bool.false_ne_true]
    rw [hok] at V
    clear hok
    go_enter Tryz.func10, Tryz.ntmps10
    go_wp2_with fail
    refine (V _ (by (repeat (first | (with_reducible exact SinceOf.refl _) | (with_reducible assumption) | (with_reducible refine SinceOf.alloc ?_ _) | (with_reducible refine SinceOf.drew ?_) | (with_reducible refine SinceOf.drewN ?_ _) | (with_reducible refine SinceOf.later ?_ _) | (with_reducible refine SinceOf.further ?_ _) | (with_reducible refine SinceOf.setCell ?_ (by first | exact Nat.le_refl _ | (simp; done) | omega | (simp; omega)) _))))).calls.mono ?_
    rintro e _ ⟨rfl, x1, rfl⟩
    go_wp2_with fail
    go_returns
    exact ⟨none, 0, rfl, Owns.nil _ _ _ _ _, (by show (0:Nat) ≤ _; omega), by (repeat (first | (with_reducible exact SinceOf.refl _) | (with_reducible assumption) | (with_reducible refine SinceOf.alloc ?_ _) | (with_reducible refine SinceOf.drew ?_) | (with_reducible refine SinceOf.drewN ?_ _) | (with_reducible refine SinceOf.later ?_ _) | (with_reducible refine SinceOf.further ?_ _) | (with_reducible refine SinceOf.setCell ?_ (by first | exact Nat.le_refl _ | (simp; done) | omega | (simp; omega)) _)))⟩
  rw [hok] at V
  by_cases hn0 : n < 0
  · obtain rfl : res = ([], 2) := by rw [← HR.out]; unfold gapsR; rw [hok, if_pos rfl, if_pos (.inl hn0)]
    have g1 : decide (n < 0) = true := decide_eq_true hn0
    clear hok
    go_enter Tryz.func10, Tryz.ntmps10
    go_wp2_with fail
    refine (V _ (by (repeat (first | (with_reducible exact SinceOf.refl _) | (with_reducible assumption) | (with_reducible refine SinceOf.alloc ?_ _) | (with_reducible refine SinceOf.drew ?_) | (with_reducible refine SinceOf.drewN ?_ _) | (with_reducible refine SinceOf.later ?_ _) | (with_reducible refine SinceOf.further ?_ _) | (with_reducible refine SinceOf.setCell ?_ (by first | exact Nat.le_refl _ | (simp; done) | omega | (simp; omega)) _))))).calls.mono ?_
    rintro e _ ⟨rfl, x1, rfl⟩
    go_wp2_with fail
    go_returns
    exact ⟨none, 0, rfl, Owns.nil _ _ _ _ _, (by show (0:Nat) ≤ _; omega), by (repeat (first | (with_reducible exact SinceOf.refl _) | (with_reducible assumption) | (with_reducible refine SinceOf.alloc ?_ _) | (with_reducible refine SinceOf.drew ?_) | (with_reducible refine SinceOf.drewN ?_ _) | (with_reducible refine SinceOf.later ?_ _) | (with_reducible refine SinceOf.further ?_ _) | (with_reducible refine SinceOf.setCell ?_ (by first | exact Nat.le_refl _ | (simp; done) | omega | (simp; omega)) _)))⟩
  have g1 : decide (n < 0) = false := decide_eq_false hn0
  by_cases hn10 : 10 < n
  · obtain rfl : res = ([], 2) := by rw [← HR.out]; unfold gapsR; rw [hok, if_pos rfl, if_pos (.inr hn10)]
    have g2 : decide (10 < n) = true := decide_eq_true hn10
    clear hok
    go_enter Tryz.func10, Tryz.ntmps10
    go_wp2_with fail
    refine (V _ (by (repeat (first | (with_reducible exact SinceOf.refl _) | (with_reducible assumption) | (with_reducible refine SinceOf.alloc ?_ _) | (with_reducible refine SinceOf.drew ?_) | (with_reducible refine SinceOf.drewN ?_ _) | (with_reducible refine SinceOf.later ?_ _) | (with_reducible refine SinceOf.further ?_ _) | (with_reducible refine SinceOf.setCell ?_ (by first | exact Nat.le_refl _ | (simp; done) | omega | (simp; omega)) _))))).calls.mono ?_
    rintro e _ ⟨rfl, x1, rfl⟩
    go_wp2_with fail
    go_returns
    exact ⟨none, 0, rfl, Owns.nil _ _ _ _ _, (by show (0:Nat) ≤ _; omega), by (repeat (first | (with_reducible exact SinceOf.refl _) | (with_reducible assumption) | (with_reducible refine SinceOf.alloc ?_ _) | (with_reducible refine SinceOf.drew ?_) | (with_reducible refine SinceOf.drewN ?_ _) | (with_reducible refine SinceOf.later ?_ _) | (with_reducible refine SinceOf.further ?_ _) | (with_reducible refine SinceOf.setCell ?_ (by first | exact Nat.le_refl _ | (simp; done) | omega | (simp; omega)) _)))⟩
  have g2 : decide (10 < n) = false := decide_eq_false hn10
  have hres2 : gapsL (edgesV r) n.toNat = res := by rw [← HR.out]; unfold gapsR; rw [hok, if_pos rfl, if_neg (by omega)]
  obtain ⟨m, rfl⟩ : ∃ m : Nat, n = m := ⟨n.toNat, by omega⟩
  rw [Int.toNat_natCast] at hres2
  have hm10 : m ≤ 10 := by omega
  obtain ⟨hE1, hE2⟩ := okB_edgeN hok
  obtain ⟨l3, l40⟩ := okB_len40 hok
  have ED := fun W (hW : SinceOf w W) => ringEdges_any A c r W (H.out.of hW) (by have := (okB_iff.1 hok).most; omega)
  have HR2 := Lib.hid (And.intro hres2 hE2)
  generalize edgesV r = S at *
  obtain ⟨i0, hi, hz0, hz1, hz2⟩ := info_parts infoIntQ
  have HI := Lib.hid (And.intro hi (And.intro hz0 (And.intro hz1 hz2)))
  clear hi hz0 hz1 hz2
  obtain ⟨i1, hi, hz0, hz1, hz2⟩ := info_parts infoSeg
  have HJ := Lib.hid (And.intro hi (And.intro hz0 (And.intro hz1 hz2)))
  clear hi hz0 hz1 hz2 hok hn0 hn10 hE1 hE2 HR hres2
  go_enter Tryz.func10, Tryz.ntmps10
  go_wp2_with fail
  refine (V _ (by (repeat (first | (with_reducible exact SinceOf.refl _) | (with_reducible assumption) | (with_reducible refine SinceOf.alloc ?_ _) | (with_reducible refine SinceOf.drew ?_) | (with_reducible refine SinceOf.drewN ?_ _) | (with_reducible refine SinceOf.later ?_ _) | (with_reducible refine SinceOf.further ?_ _) | (with_reducible refine SinceOf.setCell ?_ (by first | exact Nat.le_refl _ | (simp; done) | omega | (simp; omega)) _))))).calls.mono ?_
  rintro e _ ⟨rfl, x1, rfl⟩
  go_wp2_with fail
  refine (ED _ (by (repeat (first | (with_reducible exact SinceOf.refl _) | (with_reducible assumption) | (with_reducible refine SinceOf.alloc ?_ _) | (with_reducible refine SinceOf.drew ?_) | (with_reducible refine SinceOf.drewN ?_ _) | (with_reducible refine SinceOf.later ?_ _) | (with_reducible refine SinceOf.further ?_ _) | (with_reducible refine SinceOf.setCell ?_ (by first | exact Nat.le_refl _ | (simp; done) | omega | (simp; omega)) _))))).mono ?_
  rintro e _ ⟨A4, c4, rfl, ho4, ⟨x2, rfl⟩⟩
  have hx1 := x1.size
  have hx2 := x2.size
  obtain ⟨W1, hW1⟩ : ∃ W1, W1 = x2.wd.alloc (.cells #[.slice A4 S.length c4] 30) := ⟨_, rfl⟩
  have hb6 : W1.cell? ⟨x2.wd.heap.size, 0, none⟩ = some (.slice A4 S.length c4) := by rw [hW1]; simp [go_sem]
  have hs1 : W1.heap.size = x2.wd.heap.size + 1 := by rw [hW1]; simp
  have hrow := (ho4.isRow encE_len).of (w' := W1) (by rw [hW1]; (repeat (first | (with_reducible exact SinceOf.refl _) | (with_reducible assumption) | (with_reducible refine SinceOf.alloc ?_ _) | (with_reducible refine SinceOf.drew ?_) | (with_reducible refine SinceOf.drewN ?_ _) | (with_reducible refine SinceOf.later ?_ _) | (with_reducible refine SinceOf.further ?_ _) | (with_reducible refine SinceOf.setCell ?_ (by first | exact Nat.le_refl _ | (simp; done) | omega | (simp; omega)) _))))
  have hsw : SinceOf w W1 := by rw [hW1]; (repeat (first | (with_reducible exact SinceOf.refl _) | (with_reducible assumption) | (with_reducible refine SinceOf.alloc ?_ _) | (with_reducible refine SinceOf.drew ?_) | (with_reducible refine SinceOf.drewN ?_ _) | (with_reducible refine SinceOf.later ?_ _) | (with_reducible refine SinceOf.further ?_ _) | (with_reducible refine SinceOf.setCell ?_ (by first | exact Nat.le_refl _ | (simp; done) | omega | (simp; omega)) _)))
  have HW1 := Lib.hid (And.intro hb6 (And.intro hs1 (And.intro hrow (And.intro hsw hW1))))
  clear g1 g2 V ED ho4 hb6 hs1 hrow hsw hW1
  go_wp2_with fail
  go_loopg [7, 29] S.length (fun gas s7 s29 wr => ∃ (i : Nat) (A2 : Option Addr) (c2 : Nat) (L : List Pt), i ≤ S.length ∧ S.length - i ≤ gas ∧ s7 = .slice A2 L.length c2 ∧ s29 = .int .i64 i ∧ L = longP S i ∧ OwnQ W1.heap.size wr A2 c2 L ∧ SinceOf W1 wr)
  case atStart => exact ⟨0, none, 0, [], by omega, by omega, rfl, rfl, rfl, Owns.nil _ _ _ _ _, by rw [HW1.out.2.2.2.2]; exact SinceOf.refl _⟩
  case round =>
    obtain ⟨i, A2, c2, L, hi, hgas, rfl, rfl, hL, ho, ⟨z, rfl⟩⟩ := hrel
    have hzs := z.size
    have hs1 := HW1.out.2.1
    have hrow := HW1.out.2.2.1.of (w' := z.wd) (by (repeat (first | (with_reducible exact SinceOf.refl _) | (with_reducible assumption) | (with_reducible refine SinceOf.alloc ?_ _) | (with_reducible refine SinceOf.drew ?_) | (with_reducible refine SinceOf.drewN ?_ _) | (with_reducible refine SinceOf.later ?_ _) | (with_reducible refine SinceOf.further ?_ _) | (with_reducible refine SinceOf.setCell ?_ (by first | exact Nat.le_refl _ | (simp; done) | omega | (simp; omega)) _))))
    have hob : Nonempty (Old W1 x2.wd.heap.size) := ⟨⟨by omega⟩⟩
    have hcb : z.wd.cell? ⟨x2.wd.heap.size, 0, none⟩ = some (.slice A4 S.length c4) := by
      have := HW1.out.1
      simp [go_sem, this]
    have hsz := HW1.out.2.2.2.1
    have hLl : L.length ≤ i := by rw [hL]; exact longP_len S i
    by_cases hlt : i < S.length
    · obtain ⟨g, off, rfl, hr⟩ := hrow.at_ (by omega)
      have hO := hr.there
      have a0 := hr.e0 i hlt
      have a1 := hr.e1 i hlt
      have a2 := hr.e2 i hlt
      have a3 := hr.e3 i hlt
      have T := steps_any S[i]
      have hk : stepsI S[i] = keyQ S (i : Int) := by unfold keyQ; simp [List.getD_eq_getElem?_getD, hlt]
      have hsu := longP_succ S i
      rw [hk] at T
      rw [← hL] at hsu
      generalize keyQ S (i : Int) = kv at *
      obtain ⟨bb, hbb⟩ : ∃ b, b = decide (3 ≤ kv) := ⟨_, rfl⟩
      have gb : decide (3 ≤ kv) = bb := hbb.symm
      have hsu2 : longP S (i + 1) = L ++ (if bb = true then [((i : Int), (0 : Int))] else []) := by rw [hsu, hbb]; simp only [decide_eq_true_eq]
      change ∀ w, Gives _ _ #[sg S[i].1.1 S[i].1.2 S[i].2.1 S[i].2.2] w _ at T
      have HS := Lib.hid (And.intro hsu2 ho)
      generalize S[i].1.1 = xa at *
      generalize S[i].1.2 = xb at *
      generalize S[i].2.1 = xc at *
      generalize S[i].2.2 = xd at *
      clear hr hk hsu hsu2 hbb ho hL hrow hcb hsz
      go_wp2_with fail
      refine (T _).calls.mono ?_
      rintro e _ ⟨rfl, z1, rfl⟩
      have hz1 := z1.size
      simp only [World.size_alloc] at hz1
      clear T a0 a1 a2 a3
      cases bb
      · go_wp2_with fail
        go_roundg (S.length - (i + 1))
        case measure => omega
        case rel => exact ⟨i + 1, A2, c2, L, hlt, Nat.le_refl _, rfl, by go_num, (by rw [HS.out.1]; simp), HS.out.2.of (by (repeat (first | (with_reducible exact SinceOf.refl _) | (with_reducible assumption) | (with_reducible refine SinceOf.alloc ?_ _) | (with_reducible refine SinceOf.drew ?_) | (with_reducible refine SinceOf.drewN ?_ _) | (with_reducible refine SinceOf.later ?_ _) | (with_reducible refine SinceOf.further ?_ _) | (with_reducible refine SinceOf.setCell ?_ (by first | exact Nat.le_refl _ | (simp; done) | omega | (simp; omega)) _)))), by (repeat (first | (with_reducible exact SinceOf.refl _) | (with_reducible assumption) | (with_reducible refine SinceOf.alloc ?_ _) | (with_reducible refine SinceOf.drew ?_) | (with_reducible refine SinceOf.drewN ?_ _) | (with_reducible refine SinceOf.later ?_ _) | (with_reducible refine SinceOf.further ?_ _) | (with_reducible refine SinceOf.setCell ?_ (by first | exact Nat.le_refl _ | (simp; done) | omega | (simp; omega)) _)))⟩
      · go_wp2_with (at_builtin; refine wpList_append_row rfl (.tmp 37) (.tmp 39) 57 rfl encQ_len (by omega) encQ_one i0 _ 8 Tryz.underlying57 HI.out.1 HI.out.2.1 HI.out.2.2.1 HI.out.2.2.2 rfl (l := L) (A := A2) (c := c2) (base := W1.heap.size) rfl (HS.out.2.of (by (repeat (first | (with_reducible exact SinceOf.refl _) | (with_reducible assumption) | (with_reducible refine SinceOf.alloc ?_ _) | (with_reducible refine SinceOf.drew ?_) | (with_reducible refine SinceOf.drewN ?_ _) | (with_reducible refine SinceOf.later ?_ _) | (with_reducible refine SinceOf.further ?_ _) | (with_reducible refine SinceOf.setCell ?_ (by first | exact Nat.le_refl _ | (simp; done) | omega | (simp; omega)) _))))) (m := [((i : Int), (0 : Int))]) rfl (isRow_atQ _ _ _ (by first | rfl | simp)) (by unfold maxLen; simp; omega) (by simp; omega) (by simp; omega) ?_; intro A7 c7 w7 ho7 hgr7 hb7)
        have k4 : SinceOf W1 w7 := SinceOf.grown (by (repeat (first | (with_reducible exact SinceOf.refl _) | (with_reducible assumption) | (with_reducible refine SinceOf.alloc ?_ _) | (with_reducible refine SinceOf.drew ?_) | (with_reducible refine SinceOf.drewN ?_ _) | (with_reducible refine SinceOf.later ?_ _) | (with_reducible refine SinceOf.further ?_ _) | (with_reducible refine SinceOf.setCell ?_ (by first | exact Nat.le_refl _ | (simp; done) | omega | (simp; omega)) _)))) hgr7 (fun q hq => (HS.out.2.below q hq).1)
        have HK := Lib.hid (And.intro k4 ho7)
        clear k4 ho7 hgr7 hb7
        go_wp2_with fail
        go_roundg (S.length - (i + 1))
        case measure => omega
        case rel => exact ⟨i + 1, A7, c7, L ++ [((i : Int), (0 : Int))], hlt, Nat.le_refl _, (by first | rfl | simp), by go_num, (by rw [HS.out.1]; simp), HK.out.2, HK.out.1⟩
    · obtain rfl : i = S.length := by omega
      have hml : (longI (keyQ S) S.length).length = L.length := by rw [← longP_I, onI_len, hL]
      by_cases hfew : L.length < m
      · obtain rfl : res = ([], 8) := by rw [← HR2.out.1]; exact gapsL_few (by omega)
        have g3 : decide (L.length < m) = true := decide_eq_true hfew
        clear hL ho hrow hcb hml
        have HZ := Lib.hid hsz
        clear hsz
        go_wp2_with fail
        go_returns
        exact ⟨none, 0, rfl, Owns.nil _ _ _ _ _, (by show (0:Nat) ≤ _; omega), HZ.out.trans (by (repeat (first | (with_reducible exact SinceOf.refl _) | (with_reducible assumption) | (with_reducible refine SinceOf.alloc ?_ _) | (with_reducible refine SinceOf.drew ?_) | (with_reducible refine SinceOf.drewN ?_ _) | (with_reducible refine SinceOf.later ?_ _) | (with_reducible refine SinceOf.further ?_ _) | (with_reducible refine SinceOf.setCell ?_ (by first | exact Nat.le_refl _ | (simp; done) | omega | (simp; omega)) _))))⟩
      have g3 : decide (L.length < m) = false := decide_eq_false hfew
      have HL := Lib.hid (And.intro hL (And.intro hml hsz))
      by_cases hL0 : L.length = 0
      · have hLe : L = [] := List.length_eq_zero_iff.1 hL0
        obtain rfl : m = 0 := by omega
        obtain rfl : res = ([], 0) := by
          rw [← HR2.out.1]
          have : pickI (keyQ S) S.length 0 = [] := List.eq_nil_iff_forall_not_mem.2 (fun x hx => by have := (pickI_mem.1 hx).2; omega)
          unfold gapsL
          rw [this]
          rfl
        subst hLe
        clear hL hml ho hrow hsz
        have ST := stableNil_any A2 c2
        have SQ := sortQ_none A2 c2
        simp only [List.length_nil] at *
        have hc0 : (0 : Nat) ≤ c2 := Nat.zero_le _
        go_wp2_with fail
        go_at_call 35
        refine (ST _ _).mono ?_
        rintro e _ ⟨rfl, rfl⟩
        go_wp2_with fail
        go_at_call 38
        refine (SQ _).mono ?_
        rintro e w' ⟨rfl, rfl⟩
        go_wp2_with fail
        go_rounds 1
        go_returns
        exact ⟨none, 0, rfl, Owns.nil _ _ _ _ _, (by show (0:Nat) ≤ _; omega), HL.out.2.2.trans (by (repeat (first | (with_reducible exact SinceOf.refl _) | (with_reducible assumption) | (with_reducible refine SinceOf.alloc ?_ _) | (with_reducible refine SinceOf.drew ?_) | (with_reducible refine SinceOf.drewN ?_ _) | (with_reducible refine SinceOf.later ?_ _) | (with_reducible refine SinceOf.further ?_ _) | (with_reducible refine SinceOf.setCell ?_ (by first | exact Nat.le_refl _ | (simp; done) | omega | (simp; omega)) _))))⟩
      · obtain ⟨g, rfl, hgW, hLive⟩ := Owns.live encQ_len ho (by omega)
        have hcap : L.length ≤ c2 := ho.le_cap
        have hne : x2.wd.heap.size ≠ g := by omega
        have hCQ : CmpQ A4 c4 S z.wd x2.wd.heap.size g := ⟨hcb, by omega, hne, hrow, fun b hb e => by
          injection e with e
          have := HW1.out.2.2.1.block_lt (by omega) hb
          omega⟩
        have ST := stable_any A4 c4 S x2.wd.heap.size g 0 c2 L z.wd hLive hCQ (by rw [hL]; exact longP_in S) (by omega) (by rw [hL]; exact longP_asc S _)
        unfold SymQ fvQ at ST
        clear hLive hCQ ho hL hml hsz hrow hcb
        go_wp2_with fail
        go_at_call 35
        refine ST.mono ?_
        rintro e w3 ⟨rfl, l', hl', hre, hsd, hgr⟩
        have k3 : SinceOf W1 w3 := SinceOf.grown (by (repeat (first | (with_reducible exact SinceOf.refl _) | (with_reducible assumption) | (with_reducible refine SinceOf.alloc ?_ _) | (with_reducible refine SinceOf.drew ?_) | (with_reducible refine SinceOf.drewN ?_ _) | (with_reducible refine SinceOf.later ?_ _) | (with_reducible refine SinceOf.further ?_ _) | (with_reducible refine SinceOf.setCell ?_ (by first | exact Nat.le_refl _ | (simp; done) | omega | (simp; omega)) _)))) hgr (fun q hq => by injection hq with hq; omega)
        rw [HL.out.1] at hre hsd
        obtain ⟨sp, ss⟩ := sorted_facts hre hsd
        have hll : l'.length = L.length := by rw [HL.out.1]; exact hre.len
        have hres : res = ((pickI (keyQ S) S.length m).map (gapAt S), 0) := by rw [← HR2.out.1]; exact gapsL_some (by rw [HL.out.2.1]; omega) sp ss
        obtain ⟨hpl, hp3⟩ := pick_long (m := m) (by rw [HL.out.2.1]; omega) sp ss
        have hms := pick_sorted sp ss (m := m) (by rw [onI_len]; omega)
        have SQ := sortQ_any g 0 c2 (l'.take m) w3 (hl'.take m) (by rw [List.length_take]; omega)
        rw [show onI (l'.take m) = (onI l').take m by simp [onI, List.map_take], hms, List.length_take, hll, Nat.min_eq_left (by omega)] at SQ
        have HP := Lib.hid (And.intro hres (And.intro hpl hp3))
        obtain ⟨z3, rfl⟩ := k3
        have hz3 := z3.size
        clear ST hl' hre hsd hgr sp ss hll hpl hp3 hms hres
        have hmc : m ≤ c2 := by omega
        go_wp2_with fail
        go_at_call 38
        refine SQ.mono ?_
        rintro e w4 ⟨rfl, hl4, hgr4⟩
        have k4 : SinceOf W1 w4 := SinceOf.grown (by (repeat (first | (with_reducible exact SinceOf.refl _) | (with_reducible assumption) | (with_reducible refine SinceOf.alloc ?_ _) | (with_reducible refine SinceOf.drew ?_) | (with_reducible refine SinceOf.drewN ?_ _) | (with_reducible refine SinceOf.later ?_ _) | (with_reducible refine SinceOf.further ?_ _) | (with_reducible refine SinceOf.setCell ?_ (by first | exact Nat.le_refl _ | (simp; done) | omega | (simp; omega)) _)))) hgr4 (fun q hq => by injection hq with hq; omega)
        obtain ⟨z4, rfl⟩ := k4
        have hz4 := z4.size
        clear SQ hgr4
        obtain ⟨Q, hQ⟩ : ∃ Q, Q = pickI (keyQ S) S.length m := ⟨_, rfl⟩
        have hQm := fun x => @pickI_mem (keyQ S) S.length m x
        have hP := HP.out
        rw [← hQ] at hl4 hP hQm
        have hW := HW1.out.2.2.1.of (w' := z4.wd) (by (repeat (first | (with_reducible exact SinceOf.refl _) | (with_reducible assumption) | (with_reducible refine SinceOf.alloc ?_ _) | (with_reducible refine SinceOf.drew ?_) | (with_reducible refine SinceOf.drewN ?_ _) | (with_reducible refine SinceOf.later ?_ _) | (with_reducible refine SinceOf.further ?_ _) | (with_reducible refine SinceOf.setCell ?_ (by first | exact Nat.le_refl _ | (simp; done) | omega | (simp; omega)) _))))
        have hob4 : Nonempty (Old W1 x2.wd.heap.size) := ⟨⟨by omega⟩⟩
        have hcb4 : z4.wd.cell? ⟨x2.wd.heap.size, 0, none⟩ = some (.slice A4 S.length c4) := by
          have := HW1.out.1
          simp [go_sem, this]
        have HQ := Lib.hid (And.intro hl4 (And.intro hP (And.intro hQm hW)))
        have hwz : w.heap.size ≤ z4.wd.heap.size := by omega
        clear hl4 hP hQm hW hQ HP
        go_wp2_with fail
        go_loopg [10, 56] m (fun gas s10 s56 wr => ∃ (j : Nat) (A3 : Option Addr) (c3 : Nat) (O : List SegP), j ≤ m ∧ m - j ≤ gas ∧ s10 = .slice A3 O.length c3 ∧ s56 = .int .i64 j ∧ O.length = j ∧ O = (Q.take j).map (gapAt S) ∧ OwnSegs z4.wd.heap.size wr A3 c3 O ∧ SinceOf z4.wd wr)
        case atStart => exact ⟨0, none, 0, [], by omega, by omega, rfl, rfl, rfl, rfl, Owns.nil _ _ _ _ _, by (repeat (first | (with_reducible exact SinceOf.refl _) | (with_reducible assumption) | (with_reducible refine SinceOf.alloc ?_ _) | (with_reducible refine SinceOf.drew ?_) | (with_reducible refine SinceOf.drewN ?_ _) | (with_reducible refine SinceOf.later ?_ _) | (with_reducible refine SinceOf.further ?_ _) | (with_reducible refine SinceOf.setCell ?_ (by first | exact Nat.le_refl _ | (simp; done) | omega | (simp; omega)) _)))⟩
        case round =>
          obtain ⟨j, A3, c3, O, hj, hgas2, rfl, rfl, hOl, hO, hoO, ⟨v, rfl⟩⟩ := hrel
          have hvs := v.size
          by_cases hlt2 : j < m
          ·
              have hjQ : j < Q.length := by rw [HQ.out.2.1.2.1]; exact hlt2
              have hmem := List.getElem_mem hjQ
              have hin := ((HQ.out.2.2.1 Q[j]).1 hmem).1
              have hk3 := HQ.out.2.1.2.2 Q[j] hmem
              have hl := HQ.out.1.of (w' := v.wd) (by (repeat (first | (with_reducible exact SinceOf.refl _) | (with_reducible assumption) | (with_reducible refine SinceOf.alloc ?_ _) | (with_reducible refine SinceOf.drew ?_) | (with_reducible refine SinceOf.drewN ?_ _) | (with_reducible refine SinceOf.later ?_ _) | (with_reducible refine SinceOf.further ?_ _) | (with_reducible refine SinceOf.setCell ?_ (by first | exact Nat.le_refl _ | (simp; done) | omega | (simp; omega)) _))))
              have q0 := hl.row.q0 j (by simpa using hjQ)
              have hOg := hl.row.there
              have eq0 : (at0 (Q.map fun x => (x, (0 : Int))) j).1 = Q[j] := by rw [at0_eq (by simpa using hjQ)]; simp
              rw [eq0] at q0
              simp only [Nat.zero_add] at q0
              have htk : (Q.take (j + 1)).map (gapAt S) = O ++ [gapAt S Q[j]] := by rw [List.take_succ_eq_append_getElem hjQ, List.map_append, hO]; rfl
              obtain ⟨i, hi⟩ : ∃ i : Nat, Q[j] = (i : Int) := ⟨Q[j].toNat, by omega⟩
              rw [hi] at q0 htk hin hk3
              have hiS : i < S.length := by omega
              have hgo : gapAt S (i : Int) = gapOf S[i] := by unfold gapAt; simp [List.getD_eq_getElem?_getD, hiS]
              have hkk : keyQ S (i : Int) = stepsI S[i] := by unfold keyQ; simp [List.getD_eq_getElem?_getD, hiS]
              rw [hkk] at hk3
              rw [hgo] at htk
              have hrow := HQ.out.2.2.2
              obtain ⟨g5, off5, rfl, hr⟩ := hrow.at_ (by omega)
              have hO5 := hr.there
              have a0 := hr.e0 i hiS
              have a1 := hr.e1 i hiS
              have a2 := hr.e2 i hiS
              have a3 := hr.e3 i hiS
              have hsn := HR2.out.2 _ (List.getElem_mem hiS)
              have T := steps_any S[i]
              have hsk : stepsI S[i] = stepsK S[i].1 S[i].2 := by unfold stepsI; rw [if_pos (segN_ok hsn)]
              have h8 := (stepsK_small hsn.2.1 hsn.2.2 hsn.1).2
              rw [← hsk] at h8
              have PT := fun n hn => point_any S[i] n (segN_ok hsn) hsn.1 hn
              obtain ⟨gv, hgv⟩ : ∃ gv, gv = stepsI S[i] := ⟨_, rfl⟩
              have hgp : gapOf S[i] = (pointK S[i].1 S[i].2 ((gv - 1) / 2), pointK S[i].1 S[i].2 ((gv - 1) / 2 + 1)) := by rw [hgv]; rfl
              rw [← hgv] at T h8 hk3
              obtain ⟨q, hq⟩ : ∃ q, q = (gv - 1) / 2 := ⟨_, rfl⟩
              rw [← hq] at hgp
              have hq0 : 0 ≤ q ∧ q ≤ 8000 := by omega
              have eq1 : (gv - 1) / 2 = q := hq.symm
              have P1 := PT q (by unfold small5; omega)
              have P2 := PT (q + 1) (by unfold small5; omega)
              change ∀ w, Gives _ _ #[sg S[i].1.1 S[i].1.2 S[i].2.1 S[i].2.2] w _ at T
              change ∀ w, Gives _ _ #[sg S[i].1.1 S[i].1.2 S[i].2.1 S[i].2.2, _] w _ at P1
              change ∀ w, Gives _ _ #[sg S[i].1.1 S[i].1.2 S[i].2.1 S[i].2.2, _] w _ at P2
              generalize pointK S[i].1 S[i].2 q = k0 at *
              generalize pointK S[i].1 S[i].2 (q + 1) = k1 at *
              obtain ⟨k0, k2⟩ := k0
              obtain ⟨k1, k3⟩ := k1
              rw [hgp] at htk
              have HS := Lib.hid (And.intro htk hoO)
              have hO10 : O.length ≤ 10 := by omega
              have HOl := Lib.hid hOl
              clear hOl
              generalize S[i].1.1 = xa at *
              generalize S[i].1.2 = xb at *
              generalize S[i].2.1 = xc at *
              generalize S[i].2.2 = xd at *
              have hcbv : v.wd.cell? ⟨x2.wd.heap.size, 0, none⟩ = some (.slice (some ⟨g5, off5, none⟩) S.length c4) := by simp [go_sem, hcb4]
              have hw1 : IntKind.i64.wrap (q + 1) = q + 1 := IntWalk.i64_in _ (by omega)
              obtain ⟨hq1, hq2⟩ := hq0
              clear htk hoO hO hl hr hrow hgp hq hgv hsk PT hgo hkk hi hmem eq0 hjQ hsn hin
              simp only at P1 P2
              go_wp2_with fail
              refine (T _).calls.mono ?_
              rintro e _ ⟨rfl, v1, rfl⟩
              have hv1 := v1.size
              clear T
              go_upto_region 23 with fail
              rw [eq1]
              clear eq1
              go_region_held3 (fun w' => (w'.cell? ⟨x2.wd.heap.size, 0, none⟩ = some (.slice (some ⟨g5, off5, none⟩) S.length c4)) ∧ w'.cell? ⟨g5, off5 + i * 4, none⟩ = some (.int .i64 xa) ∧ w'.cell? ⟨g5, off5 + i * 4 + 1, none⟩ = some (.int .i64 xb) ∧ w'.cell? ⟨g5, off5 + i * 4 + 2, none⟩ = some (.int .i64 xc) ∧ w'.cell? ⟨g5, off5 + i * 4 + 3, none⟩ = some (.int .i64 xd)) ((simp [go_sem, *]))
                (first
                  | (go_at_call 39; (with_reducible refine (P1 _).calls.mono ?_); rintro e _ ⟨rfl, y1, rfl⟩; have sy1 := y1.size; (try simp only [World.size_alloc, World.size_drew] at sy1))
                  | (go_at_call 39; (with_reducible refine (P2 _).calls.mono ?_); rintro e _ ⟨rfl, y2, rfl⟩; have sy2 := y2.size; (try simp only [World.size_alloc, World.size_drew] at sy2))
                  | (refine step_append_row (by rfl) (.tmp 67) (.tmp 82) 30 (by rfl) encE_len (by omega) encE_one i1 _ 32 Tryz.underlying30 HJ.out.1 HJ.out.2.1 HJ.out.2.2.1 HJ.out.2.2.2 rfl (l := O) (A := A3) (c := c3) (base := z4.wd.heap.size) (by rfl) (HS.out.2.of (by (repeat (first | (with_reducible exact SinceOf.refl _) | (with_reducible assumption) | (with_reducible refine SinceOf.alloc ?_ _) | (with_reducible refine SinceOf.drew ?_) | (with_reducible refine SinceOf.drewN ?_ _) | (with_reducible refine SinceOf.later ?_ _) | (with_reducible refine SinceOf.further ?_ _) | (with_reducible refine SinceOf.setCell ?_ (by first | exact Nat.le_refl _ | (simp; done) | omega | (simp; omega)) _))))) (m := [((k0, k2), (k1, k3))]) (by rfl) (isRow_atE _ _ _ _ _ _ (by first | rfl | simp)) (by unfold maxLen; simp; omega) (by simp; omega) (by simp; omega) ?_; intro A5 c5 w5 ho5 hgr5 hb5; have k5 : SinceOf z4.wd w5 := SinceOf.grown (by (repeat (first | (with_reducible exact SinceOf.refl _) | (with_reducible assumption) | (with_reducible refine SinceOf.alloc ?_ _) | (with_reducible refine SinceOf.drew ?_) | (with_reducible refine SinceOf.drewN ?_ _) | (with_reducible refine SinceOf.later ?_ _) | (with_reducible refine SinceOf.further ?_ _) | (with_reducible refine SinceOf.setCell ?_ (by first | exact Nat.le_refl _ | (simp; done) | omega | (simp; omega)) _)))) hgr5 (fun q hq => (HS.out.2.below q hq).1); have HK5 := Lib.hid ho5; clear ho5 hgr5 hb5; obtain ⟨y5, rfl⟩ := k5))
              all_goals
                clear P1 P2 hw1 a0 a1 a2 a3 q0 hcbv
                go_wp2_with fail
                go_roundg (m - (j + 1))
                case measure => omega
                case rel => exact ⟨j + 1, A5, c5, O ++ [((k0, k2), (k1, k3))], hlt2, Nat.le_refl _, (by first | rfl | simp), by go_num, (by have := HOl.out; simp; omega), HS.out.1.symm, HK5.out, by (repeat (first | (with_reducible exact SinceOf.refl _) | (with_reducible assumption) | (with_reducible refine SinceOf.alloc ?_ _) | (with_reducible refine SinceOf.drew ?_) | (with_reducible refine SinceOf.drewN ?_ _) | (with_reducible refine SinceOf.later ?_ _) | (with_reducible refine SinceOf.further ?_ _) | (with_reducible refine SinceOf.setCell ?_ (by first | exact Nat.le_refl _ | (simp; done) | omega | (simp; omega)) _)))⟩
          · obtain rfl : j = m := by omega
            rw [List.take_of_length_le (by rw [HQ.out.2.1.2.1]; exact Nat.le_refl _)] at hO
            obtain rfl : res = (O, 0) := by rw [HQ.out.2.1.1, hO]
            have HX := Lib.hid (hoO.base_le hwz)
            have hO40 : O.length ≤ 40 := by omega
            have HZ := Lib.hid HL.out.2.2
            clear hO hoO
            go_wp2_with fail
            go_returns
            exact ⟨A3, c3, rfl, HX.out, hO40, HZ.out.trans (by (repeat (first | (with_reducible exact SinceOf.refl _) | (with_reducible assumption) | (with_reducible refine SinceOf.alloc ?_ _) | (with_reducible refine SinceOf.drew ?_) | (with_reducible refine SinceOf.drewN ?_ _) | (with_reducible refine SinceOf.later ?_ _) | (with_reducible refine SinceOf.further ?_ _) | (with_reducible refine SinceOf.setCell ?_ (by first | exact Nat.le_refl _ | (simp; done) | omega | (simp; omega)) _))))⟩
end Go.Proofs.YtkpnffokjpgalaaGreat
