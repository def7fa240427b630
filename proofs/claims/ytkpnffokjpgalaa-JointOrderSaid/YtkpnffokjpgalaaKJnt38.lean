/- Layer 46: JointOrder, walked. -/
import Derived.Test.YtkpnffokjpgalaaKJnt31
import Derived.Test.YtkpnffokjpgalaaKJntR3
namespace Go.Proofs.Ytkpnffokjpgalaa
set_option linter.unusedVariables false
set_option linter.unusedSimpArgs false
open Go.RowKit Go.Sort
attribute [local go_sem ↓] Go.wp_at_zero Go.wp_at_succ

theorem once_bound {rs : List (List Pt)} : onceR rs = (onceF [] rs, 0) ∨ (onceR rs).1 = [] ∧ (onceR rs).2 ≠ 0 := by
  unfold onceR
  split
  · exact .inr ⟨rfl, by simp⟩
  · split
    · exact .inl rfl
    · exact .inr ⟨rfl, by simp⟩
theorem vxs_append (X Y : List RgR) : vxs (X ++ Y) = vxs X ++ vxs Y := by unfold vxs; rw [List.map_append]
theorem vxs_rev (X : List RgR) : vxs X.reverse = (vxs X).reverse := by unfold vxs; rw [List.map_reverse]
theorem ownG_empty (W : World) (base : Nat) (h : base ≤ W.heap.size) : Owns encG 1 base 26 (W.alloc (.cells #[] 26)) (some ⟨W.heap.size, 0, none⟩) 0 [] := World.ownsRow_lit W #[] 0 h (Nat.zero_le _) rfl
set_option maxRecDepth 100000 in
set_option maxHeartbeats 8000000 in
theorem around_any (A : Option Addr) (c : Nat) (r : List (Int × Int)) (w : World) (h : IsVecs w A c r) (hlen : r.length ≤ 100000) :
    Yields Try.prog 8 #[.slice A r.length c] w (.int .i64 (lenE (edgesV r))) := by
  apply Yields.ret
  have ED := fun W (hW : SinceOf w W) => refEdges_any A c r W (h.of hW) hlen
  have hl := edgesV_len_le r
  clear h
  go_enter Try.func8, Try.ntmps8
  go_wp2_with fail
  refine (ED _ (by (repeat (first | (with_reducible exact SinceOf.refl _) | (with_reducible assumption) | (with_reducible refine SinceOf.alloc ?_ _) | (with_reducible refine SinceOf.drew ?_) | (with_reducible refine SinceOf.drewN ?_ _) | (with_reducible refine SinceOf.later ?_ _) | (with_reducible refine SinceOf.further ?_ _) | (with_reducible refine SinceOf.setCell ?_ (by first | exact Nat.le_refl _ | (simp; done) | omega | (simp; omega)) _))))).mono ?_
  rintro e _ ⟨A8, c8, rfl, ho8, ⟨x1, rfl⟩⟩
  have RL := refLength_any A8 c8 (edgesV r) x1.wd (ho8.isRow encE_len) (by omega)
  clear ho8 ED
  go_wp2_with fail
  refine RL.calls.mono ?_
  rintro e _ ⟨rfl, x2, rfl⟩
  go_wp2_with fail
  go_returns
  exact ⟨rfl, by (repeat (first | (with_reducible exact SinceOf.refl _) | (with_reducible assumption) | (with_reducible refine SinceOf.alloc ?_ _) | (with_reducible refine SinceOf.drew ?_) | (with_reducible refine SinceOf.drewN ?_ _) | (with_reducible refine SinceOf.later ?_ _) | (with_reducible refine SinceOf.further ?_ _) | (with_reducible refine SinceOf.setCell ?_ (by first | exact Nat.le_refl _ | (simp; done) | omega | (simp; omega)) _)))⟩
set_option maxRecDepth 100000 in
set_option maxHeartbeats 32000000 in
theorem jointOrder_any (A : Option Addr) (c : Nat) (X : List RgR) (w : World) (h : IsRings w A c X) (hcap : X.length ≤ c) :
    Yields Try.prog 3 #[.slice A X.length c] w (.bool true) := by
  apply Yields.ret
  have hlen := h.len
  have AW := awake46_any
  have FW := fun W (hW : SinceOf w W) => few46_any A c X W (h.of hW)
  have OP := fun W (hW : SinceOf w W) => once_any A c X W (h.of hW)
  have H := Lib.hid h
  clear h
  obtain ⟨i0, hi, hz0, hz1, hz2⟩ := info_parts infoRing
  have HI := Lib.hid (And.intro hi (And.intro hz0 (And.intro hz1 hz2)))
  clear hi hz0 hz1 hz2
  obtain ⟨fw, hfw⟩ : ∃ b, b = fewX (vxs X) := ⟨_, rfl⟩
  rw [← hfw] at FW
  have HFW := Lib.hid hfw
  clear hfw
  go_enter Try.func3, Try.ntmps3
  go_wp2_with fail
  refine (AW _).calls.mono ?_
  rintro e _ ⟨rfl, x1, rfl⟩
  clear AW
  go_wp2_with fail
  refine (FW _ (by (repeat (first | (with_reducible exact SinceOf.refl _) | (with_reducible assumption) | (with_reducible refine SinceOf.alloc ?_ _) | (with_reducible refine SinceOf.drew ?_) | (with_reducible refine SinceOf.drewN ?_ _) | (with_reducible refine SinceOf.later ?_ _) | (with_reducible refine SinceOf.further ?_ _) | (with_reducible refine SinceOf.setCell ?_ (by first | exact Nat.le_refl _ | (simp; done) | omega | (simp; omega)) _))))).calls.mono ?_
  rintro e _ ⟨rfl, x2, rfl⟩
  clear FW
  cases fw
  · go_wp2_with fail
    go_returns
    exact ⟨rfl, by (repeat (first | (with_reducible exact SinceOf.refl _) | (with_reducible assumption) | (with_reducible refine SinceOf.alloc ?_ _) | (with_reducible refine SinceOf.drew ?_) | (with_reducible refine SinceOf.drewN ?_ _) | (with_reducible refine SinceOf.later ?_ _) | (with_reducible refine SinceOf.further ?_ _) | (with_reducible refine SinceOf.setCell ?_ (by first | exact Nat.le_refl _ | (simp; done) | omega | (simp; omega)) _)))⟩
  by_cases hX0 : X.length = 0
  · have g0 : ((X.length : Int) == 0) = true := by simpa using hX0
    go_wp2_with fail
    go_returns
    exact ⟨rfl, by (repeat (first | (with_reducible exact SinceOf.refl _) | (with_reducible assumption) | (with_reducible refine SinceOf.alloc ?_ _) | (with_reducible refine SinceOf.drew ?_) | (with_reducible refine SinceOf.drewN ?_ _) | (with_reducible refine SinceOf.later ?_ _) | (with_reducible refine SinceOf.further ?_ _) | (with_reducible refine SinceOf.setCell ?_ (by first | exact Nat.le_refl _ | (simp; done) | omega | (simp; omega)) _)))⟩
  have g0 : ((X.length : Int) == 0) = false := by simpa using hX0
  have hX5 : X.length ≤ 5 := by
    have := HFW.out.symm
    unfold fewX at this
    rw [Bool.and_eq_true, decide_eq_true_eq, vxs_len] at this
    exact this.2
  have hS2 : SinceOf w x2.wd := by (repeat (first | (with_reducible exact SinceOf.refl _) | (with_reducible assumption) | (with_reducible refine SinceOf.alloc ?_ _) | (with_reducible refine SinceOf.drew ?_) | (with_reducible refine SinceOf.drewN ?_ _) | (with_reducible refine SinceOf.later ?_ _) | (with_reducible refine SinceOf.further ?_ _) | (with_reducible refine SinceOf.setCell ?_ (by first | exact Nat.le_refl _ | (simp; done) | omega | (simp; omega)) _)))
  have H2 := Lib.hid hS2
  clear hS2
  have e1 : IntKind.i64.wrap ((X.length : Int) - 1) = (X.length : Int) - 1 := IntWalk.i64_in _ (by omega)
  go_wp2_with fail
  go_loopg [3, 4] X.length (fun gas s3 s4 wr => ∃ (k : Nat) (j : Int) (A' : Option Addr) (c' n' : Nat) (Y : List RgR), k ≤ X.length ∧ k ≤ gas ∧ j = (k : Int) - 1 ∧ n' = Y.length ∧ s3 = .slice A' n' c' ∧ s4 = .int .i64 j ∧ Y = (X.drop k).reverse ∧ Owns encG 1 x2.wd.heap.size 26 wr A' c' Y ∧ SinceOf x2.wd wr)
  case atStart => exact ⟨X.length, (X.length : Int) - 1, none, 0, 0, [], by omega, by omega, rfl, rfl, rfl, by first | rfl | (rw [e1]), by simp, Owns.nil _ _ _ _ _, by (repeat (first | (with_reducible exact SinceOf.refl _) | (with_reducible assumption) | (with_reducible refine SinceOf.alloc ?_ _) | (with_reducible refine SinceOf.drew ?_) | (with_reducible refine SinceOf.drewN ?_ _) | (with_reducible refine SinceOf.later ?_ _) | (with_reducible refine SinceOf.further ?_ _) | (with_reducible refine SinceOf.setCell ?_ (by first | exact Nat.le_refl _ | (simp; done) | omega | (simp; omega)) _)))⟩
  case round =>
    obtain ⟨k, j, A', c', n', Y, hk, hgas, hj, hn', rfl, rfl, hY, ho, ⟨z, rfl⟩⟩ := hrel
    have hzs := z.size
    by_cases hlt : 0 < k
    · obtain ⟨m, rfl⟩ : ∃ m, k = m + 1 := ⟨k - 1, by omega⟩
      obtain rfl : j = (m : Int) := by omega
      have hx0 := H.out.of (w' := z.wd) (H2.out.trans (by (repeat (first | (with_reducible exact SinceOf.refl _) | (with_reducible assumption) | (with_reducible refine SinceOf.alloc ?_ _) | (with_reducible refine SinceOf.drew ?_) | (with_reducible refine SinceOf.drewN ?_ _) | (with_reducible refine SinceOf.later ?_ _) | (with_reducible refine SinceOf.further ?_ _) | (with_reducible refine SinceOf.setCell ?_ (by first | exact Nat.le_refl _ | (simp; done) | omega | (simp; omega)) _)))))
      obtain ⟨g, off, rfl, hr⟩ := hx0.row.at_ (by omega)
      have hO1 := hr.there
      have k0 := hr.g0 m (by omega)
      have hYl : Y.length = X.length - (m + 1) := by rw [hY]; simp
      have hY2 : Y ++ [X[m]'(by omega)] = (X.drop m).reverse := by rw [hY, List.drop_eq_getElem_cons (show m < X.length by omega), List.reverse_cons]
      obtain ⟨x, hx⟩ : ∃ x, x = X[m]'(by omega) := ⟨_, rfl⟩
      rw [← hx] at k0 hY2
      have HO := Lib.hid (And.intro ho (And.intro hY2 hn'))
      have hn5 : n' ≤ 5 := by omega
      obtain ⟨xA, xcc, xs⟩ := x
      simp only at k0
      have b1 : (0 : Int) ≤ m := by omega
      have b2 : (m : Int) < X.length := by omega
      have e2 : IntKind.i64.wrap ((m : Int) - 1) = (m : Int) - 1 := IntWalk.i64_in _ (by omega)
      clear ho hY2 hn' hr hx0 hx hY hj hYl
      go_wp2_with (at_builtin; refine wpList_append_row rfl (.tmp 31) (.tmp 36) 22 rfl encG_len (by omega) encG_one i0 _ 24 Try.underlying22 HI.out.1 HI.out.2.1 HI.out.2.2.1 HI.out.2.2.2 rfl (l := Y) (A := A') (c := c') (base := x2.wd.heap.size) (by rw [← HO.out.2.2]; rfl) (HO.out.1.of (by (repeat (first | (with_reducible exact SinceOf.refl _) | (with_reducible assumption) | (with_reducible refine SinceOf.alloc ?_ _) | (with_reducible refine SinceOf.drew ?_) | (with_reducible refine SinceOf.drewN ?_ _) | (with_reducible refine SinceOf.later ?_ _) | (with_reducible refine SinceOf.further ?_ _) | (with_reducible refine SinceOf.setCell ?_ (by first | exact Nat.le_refl _ | (simp; done) | omega | (simp; omega)) _))))) (m := [⟨xA, xcc, xs⟩]) rfl (isRow_atG _ _ ⟨xA, xcc, xs⟩ (by first | rfl | simp)) (by rw [← HO.out.2.2]; unfold maxLen; simp; omega) (by rw [← HO.out.2.2]; simp; omega) (by simp; omega) ?_; intro A5 c5 w5 ho5 hgr5 hb5)
      have hs5 : SinceOf x2.wd w5 := SinceOf.grown (by (repeat (first | (with_reducible exact SinceOf.refl _) | (with_reducible assumption) | (with_reducible refine SinceOf.alloc ?_ _) | (with_reducible refine SinceOf.drew ?_) | (with_reducible refine SinceOf.drewN ?_ _) | (with_reducible refine SinceOf.later ?_ _) | (with_reducible refine SinceOf.further ?_ _) | (with_reducible refine SinceOf.setCell ?_ (by first | exact Nat.le_refl _ | (simp; done) | omega | (simp; omega)) _)))) hgr5 (fun q hq => (HO.out.1.below q hq).1)
      have HU := Lib.hid (And.intro ho5 hs5)
      clear ho5 hs5 hgr5 hb5
      go_roundg m
      case measure => omega
      case rel =>
        refine ⟨m, (m : Int) - 1, A5, c5, n' + 1, Y ++ [⟨xA, xcc, xs⟩], by omega, Nat.le_refl _, rfl, by simp [HO.out.2.2], (by first | rfl | (rw [HO.out.2.2]; rfl) | simp [HO.out.2.2]), by first | rfl | (rw [e2]) | go_num, HO.out.2.1, HU.out.1, HU.out.2⟩
    · obtain rfl : k = 0 := by omega
      have hjn : j < 0 := by omega
      clear hj
      rw [List.drop_zero] at hY
      subst hn'
      have hRY : IsRings z.wd A' c' Y := ⟨ho.isRow encG_len, fun q hq => ((H.out.all q (by rw [hY] at hq; exact List.mem_reverse.1 hq)).of (H2.out.trans (by (repeat (first | (with_reducible exact SinceOf.refl _) | (with_reducible assumption) | (with_reducible refine SinceOf.alloc ?_ _) | (with_reducible refine SinceOf.drew ?_) | (with_reducible refine SinceOf.drewN ?_ _) | (with_reducible refine SinceOf.later ?_ _) | (with_reducible refine SinceOf.further ?_ _) | (with_reducible refine SinceOf.setCell ?_ (by first | exact Nat.le_refl _ | (simp; done) | omega | (simp; omega)) _)))))), by rw [hY]; simpa using hlen⟩
      have hvY : vxs Y = (vxs X).reverse := by rw [hY, vxs_rev]
      have OB := fun W (hW : SinceOf z.wd W) => once_any A' c' Y W (hRY.of hW)
      rw [hvY] at OB
      clear hRY hvY hY ho
      go_wp2_with fail
      refine (OP _ (H2.out.trans (by (repeat (first | (with_reducible exact SinceOf.refl _) | (with_reducible assumption) | (with_reducible refine SinceOf.alloc ?_ _) | (with_reducible refine SinceOf.drew ?_) | (with_reducible refine SinceOf.drewN ?_ _) | (with_reducible refine SinceOf.later ?_ _) | (with_reducible refine SinceOf.further ?_ _) | (with_reducible refine SinceOf.setCell ?_ (by first | exact Nat.le_refl _ | (simp; done) | omega | (simp; omega)) _)))))).mono ?_
      rintro e _ ⟨A1, c1, rfl, o1, l1, ⟨y1, rfl⟩⟩
      have R1 := Lib.hid (o1.isRow encE_len)
      clear o1 OP
      go_wp2_with fail
      refine (OB _ (by (repeat (first | (with_reducible exact SinceOf.refl _) | (with_reducible assumption) | (with_reducible refine SinceOf.alloc ?_ _) | (with_reducible refine SinceOf.drew ?_) | (with_reducible refine SinceOf.drewN ?_ _) | (with_reducible refine SinceOf.later ?_ _) | (with_reducible refine SinceOf.further ?_ _) | (with_reducible refine SinceOf.setCell ?_ (by first | exact Nat.le_refl _ | (simp; done) | omega | (simp; omega)) _))))).mono ?_
      rintro e _ ⟨A2, c2, rfl, o2, l2, ⟨y2, rfl⟩⟩
      have R2 := Lib.hid (o2.isRow encE_len)
      clear o2 OB
      have hsy : SinceOf w y2.wd := H2.out.trans (by (repeat (first | (with_reducible exact SinceOf.refl _) | (with_reducible assumption) | (with_reducible refine SinceOf.alloc ?_ _) | (with_reducible refine SinceOf.drew ?_) | (with_reducible refine SinceOf.drewN ?_ _) | (with_reducible refine SinceOf.later ?_ _) | (with_reducible refine SinceOf.further ?_ _) | (with_reducible refine SinceOf.setCell ?_ (by first | exact Nat.le_refl _ | (simp; done) | omega | (simp; omega)) _))))
      have H3 := Lib.hid hsy
      have hx0 := H.out.of (w' := y2.wd) hsy
      obtain ⟨g, off, rfl, hr⟩ := hx0.row.at_ (by omega)
      have hO1 := hr.there
      have k0 := hr.g0 0 (by omega)
      obtain ⟨x, hx⟩ : ∃ x, x = X[0]'(by omega) := ⟨_, rfl⟩
      rw [← hx, Nat.add_zero] at k0
      have hXT : ∀ W, SinceOf w W → ∀ (A7 : Option Addr) (c7 : Nat), Owns encG 1 y2.wd.heap.size 26 W A7 c7 ([] ++ X ++ [x]) → IsRings W A7 c7 (X ++ [x]) := fun W hW A7 c7 ho7 => ⟨by have := ho7.isRow encG_len; simpa using this, fun q hq => by
        rcases List.mem_append.1 hq with hq | hq
        · exact (H.out.all q hq).of hW
        · rw [List.mem_singleton] at hq; subst hq; rw [hx]; exact (H.out.all _ (List.getElem_mem _)).of hW, by simp; omega⟩
      have HX := Lib.hid (And.intro hXT hx)
      have hxs : vxs (X ++ [x]) = vxs X ++ [x.xs] := by rw [vxs_append]; rfl
      have OT := fun W (hW : SinceOf w W) (A7 : Option Addr) (c7 : Nat) (ho7 : Owns encG 1 y2.wd.heap.size 26 W A7 c7 ([] ++ X ++ [x])) => once_any A7 c7 (X ++ [x]) W (HX.out.1 W hW A7 c7 ho7)
      rw [hxs] at OT
      have hmem : x.xs ∈ vxs X := by rw [hx]; exact List.mem_map.2 ⟨_, List.getElem_mem _, rfl⟩
      have HM := Lib.hid hmem
      obtain ⟨T3, hT3⟩ : ∃ t, t = onceR (vxs X ++ [x.xs]) := ⟨_, rfl⟩
      have hXx : (X ++ [x]).length = X.length + 1 := by simp
      rw [← hT3, hXx] at OT
      have HT := Lib.hid hT3
      clear hXT hx hxs hmem hT3 hr hx0 hsy hXx
      obtain ⟨xA, xcc, xs⟩ := x
      simp only at k0
      go_upto_region 12 with fail
      go_cut [9, 10] from 48 to 59 (fun s9 s10 wx => ∃ (A3 : Option Addr) (c3 : Nat), s9 = .slice A3 T3.1.length c3 ∧ s10 = .int .i64 T3.2 ∧ IsSegs wx A3 c3 T3.1 ∧ T3.1.length ≤ 40000000 ∧ SinceOf y2.wd wx)
      case first =>
        have b9 : (0 : Int) < X.length := by omega
        have b10 : 0 < X.length := by omega
        have b11 : ¬ X = [] := fun e => hX0 (by rw [e]; rfl)
        go_region_held3 (fun w' => w'.cell? ⟨g, off, none⟩ = some (.slice xA xs.length xcc)) ((simp [go_sem, *]))
          (first
            | (refine step_append_row (by rfl) (.tmp 49) (.tmp 50) 22 (by rfl) encG_len (by omega) encG_one i0 _ 24 Try.underlying22 HI.out.1 HI.out.2.1 HI.out.2.2.1 HI.out.2.2.2 rfl (l := []) (c := 0) (base := y2.wd.heap.size) (by rfl) ?own (m := X) (by rfl) ?hm ?h63 ?hby ?hbase ?_
               case own => first | exact ownG_empty _ _ (by first | exact Nat.le_refl _ | (simp; done) | (simp; omega)) | exact (ownG_empty y2.wd y2.wd.heap.size (Nat.le_refl _)).of (by (repeat (first | (with_reducible exact SinceOf.refl _) | (with_reducible assumption) | (with_reducible refine SinceOf.alloc ?_ _) | (with_reducible refine SinceOf.drew ?_) | (with_reducible refine SinceOf.drewN ?_ _) | (with_reducible refine SinceOf.later ?_ _) | (with_reducible refine SinceOf.further ?_ _) | (with_reducible refine SinceOf.setCell ?_ (by first | exact Nat.le_refl _ | (simp; done) | omega | (simp; omega)) _)))) | (have q := ownG_empty (y2.wd.alloc (.cells #[.slice xA xs.length xcc] 26)) y2.wd.heap.size (by simp); rw [show (y2.wd.alloc (.cells #[.slice xA xs.length xcc] 26)).heap.size = y2.wd.heap.size + 1 from by simp] at q; first | exact q | exact q.of ((SinceOf.refl _).drew))
               case hm => exact (H.out.of (H3.out.trans (by (repeat (first | (with_reducible exact SinceOf.refl _) | (with_reducible assumption) | (with_reducible refine SinceOf.alloc ?_ _) | (with_reducible refine SinceOf.drew ?_) | (with_reducible refine SinceOf.drewN ?_ _) | (with_reducible refine SinceOf.later ?_ _) | (with_reducible refine SinceOf.further ?_ _) | (with_reducible refine SinceOf.setCell ?_ (by first | exact Nat.le_refl _ | (simp; done) | omega | (simp; omega)) _)))))).row
               case h63 => unfold maxLen; simp; omega
               case hby => simp; omega
               case hbase => first | exact Nat.le_refl _ | (simp; done) | (simp; omega)
               intro A5 c5 w5 ho5 hgr5 hb5
               have hs5 : SinceOf y2.wd w5 := SinceOf.grown (by (repeat (first | (with_reducible exact SinceOf.refl _) | (with_reducible assumption) | (with_reducible refine SinceOf.alloc ?_ _) | (with_reducible refine SinceOf.drew ?_) | (with_reducible refine SinceOf.drewN ?_ _) | (with_reducible refine SinceOf.later ?_ _) | (with_reducible refine SinceOf.further ?_ _) | (with_reducible refine SinceOf.setCell ?_ (by first | exact Nat.le_refl _ | (simp; done) | omega | (simp; omega)) _)))) hgr5 (by intro q hq; simp [blockOf] at hq; omega)
               have hz5 := hgr5.size
               (try simp only [World.size_alloc, World.size_drew] at hz5)
               have hc5 : w5.cell? ⟨g, off, none⟩ = some (.slice xA xs.length xcc) := by (obtain ⟨v5, rfl⟩ := hs5; simp [go_sem, *])
               have ho15 : Nonempty (Old w5 g) := hO1.elim fun q => ⟨⟨Nat.lt_of_lt_of_le q.lt hs5.size⟩⟩
               rw [List.length_nil, Nat.zero_add])
            | (refine step_append_row (by rfl) (.tmp 51) (.tmp 55) 22 (by rfl) encG_len (by omega) encG_one i0 _ 24 Try.underlying22 HI.out.1 HI.out.2.1 HI.out.2.2.1 HI.out.2.2.2 rfl (l := [] ++ X) (A := A5) (c := c5) (base := y2.wd.heap.size) (by rfl) ?own (m := [⟨xA, xcc, xs⟩]) (by rfl) ?hm ?h63 ?hby ?hbase ?_
               case own => first | exact ho5 | exact ho5.of (by (repeat (first | (with_reducible exact SinceOf.refl _) | (with_reducible assumption) | (with_reducible refine SinceOf.alloc ?_ _) | (with_reducible refine SinceOf.drew ?_) | (with_reducible refine SinceOf.drewN ?_ _) | (with_reducible refine SinceOf.later ?_ _) | (with_reducible refine SinceOf.further ?_ _) | (with_reducible refine SinceOf.setCell ?_ (by first | exact Nat.le_refl _ | (simp; done) | omega | (simp; omega)) _))))
               case hm => first
                 | exact isRow_atG _ _ ⟨xA, xcc, xs⟩ (by first | rfl | simp)
                 | (refine IsRow.kept ?q1 hgr5 ?q2
                    case q1 => first | exact isRow_atG _ _ ⟨xA, xcc, xs⟩ (by first | rfl | (simp; done)) | exact (isRow_atG (y2.wd.alloc (.cells #[] 26)) _ ⟨xA, xcc, xs⟩ (by first | rfl | (simp; done))).of ((SinceOf.refl _).drew) | exact (isRow_atG y2.wd _ ⟨xA, xcc, xs⟩ rfl).of (((SinceOf.refl _).alloc _).drew) | exact (isRow_atG y2.wd.drew _ ⟨xA, xcc, xs⟩ rfl).of ((SinceOf.refl _).alloc _)
                    case q2 => intro b hb e; simp [blockOf] at hb e; omega)
               case h63 => unfold maxLen; simp; omega
               case hby => simp; omega
               case hbase => have := hs5.size; first | omega | (simp; omega)
               intro A6 c6 w6 ho6 hgr6 hb6
               have hs6 : SinceOf y2.wd w6 := SinceOf.grown (by first | exact hs5 | exact hs5.alloc _ | (repeat (first | (with_reducible exact SinceOf.refl _) | (with_reducible assumption) | (with_reducible refine SinceOf.alloc ?_ _) | (with_reducible refine SinceOf.drew ?_) | (with_reducible refine SinceOf.drewN ?_ _) | (with_reducible refine SinceOf.later ?_ _) | (with_reducible refine SinceOf.further ?_ _) | (with_reducible refine SinceOf.setCell ?_ (by first | exact Nat.le_refl _ | (simp; done) | omega | (simp; omega)) _)))) hgr6 (by intro q hq; exact (ho5.below q hq).1)
               have hc6 : w6.cell? ⟨g, off, none⟩ = some (.slice xA xs.length xcc) := by (obtain ⟨v6, rfl⟩ := hs6; simp [go_sem, *])
               have ho16 : Nonempty (Old w6 g) := hO1.elim fun q => ⟨⟨Nat.lt_of_lt_of_le q.lt hs6.size⟩⟩)
            | (go_at_call 6
               refine (OT _ (H3.out.trans hs6) A6 c6 ho6).mono ?_
               rintro e _ ⟨A7, c7, rfl, o7, l7, ⟨y7, rfl⟩⟩
               have hr7 := o7.isRow encE_len
               have hs7 : SinceOf y2.wd y7.wd := hs6.trans ⟨y7, rfl⟩
               clear o7))
        all_goals
          go_wp2_with fail
          go_meet
          exact ⟨A7, c7, by first | rfl | simp, by first | rfl | simp, hr7.of (by (repeat (first | (with_reducible exact SinceOf.refl _) | (with_reducible assumption) | (with_reducible refine SinceOf.alloc ?_ _) | (with_reducible refine SinceOf.drew ?_) | (with_reducible refine SinceOf.drewN ?_ _) | (with_reducible refine SinceOf.later ?_ _) | (with_reducible refine SinceOf.further ?_ _) | (with_reducible refine SinceOf.setCell ?_ (by first | exact Nat.le_refl _ | (simp; done) | omega | (simp; omega)) _)))), l7, hs7.trans (by (repeat (first | (with_reducible exact SinceOf.refl _) | (with_reducible assumption) | (with_reducible refine SinceOf.alloc ?_ _) | (with_reducible refine SinceOf.drew ?_) | (with_reducible refine SinceOf.drewN ?_ _) | (with_reducible refine SinceOf.later ?_ _) | (with_reducible refine SinceOf.further ?_ _) | (with_reducible refine SinceOf.setCell ?_ (by first | exact Nat.le_refl _ | (simp; done) | omega | (simp; omega)) _))))⟩
      case rest =>
        obtain ⟨A3, c3, rfl, rfl, hr3, l3, ⟨y3, rfl⟩⟩ := hcut
        have R3 := Lib.hid hr3
        clear hr3 OT
        have hsy : SinceOf w y3.wd := H3.out.trans (by (repeat (first | (with_reducible exact SinceOf.refl _) | (with_reducible assumption) | (with_reducible refine SinceOf.alloc ?_ _) | (with_reducible refine SinceOf.drew ?_) | (with_reducible refine SinceOf.drewN ?_ _) | (with_reducible refine SinceOf.later ?_ _) | (with_reducible refine SinceOf.further ?_ _) | (with_reducible refine SinceOf.setCell ?_ (by first | exact Nat.le_refl _ | (simp; done) | omega | (simp; omega)) _))))
        have H4 := Lib.hid hsy
        clear hsy
        have L1 := fun W (hW : SinceOf y3.wd W) => length_any A1 c1 (onceR (vxs X)).1 W (R1.out.of (SinceOf.trans (show SinceOf y1.wd y3.wd by (repeat (first | (with_reducible exact SinceOf.refl _) | (with_reducible assumption) | (with_reducible refine SinceOf.alloc ?_ _) | (with_reducible refine SinceOf.drew ?_) | (with_reducible refine SinceOf.drewN ?_ _) | (with_reducible refine SinceOf.later ?_ _) | (with_reducible refine SinceOf.further ?_ _) | (with_reducible refine SinceOf.setCell ?_ (by first | exact Nat.le_refl _ | (simp; done) | omega | (simp; omega)) _)))) hW)) (by omega)
        have L2 := fun W (hW : SinceOf y3.wd W) => length_any A2 c2 (onceR (vxs X).reverse).1 W (R2.out.of (SinceOf.trans (show SinceOf y2.wd y3.wd by (repeat (first | (with_reducible exact SinceOf.refl _) | (with_reducible assumption) | (with_reducible refine SinceOf.alloc ?_ _) | (with_reducible refine SinceOf.drew ?_) | (with_reducible refine SinceOf.drewN ?_ _) | (with_reducible refine SinceOf.later ?_ _) | (with_reducible refine SinceOf.further ?_ _) | (with_reducible refine SinceOf.setCell ?_ (by first | exact Nat.le_refl _ | (simp; done) | omega | (simp; omega)) _)))) hW)) (by omega)
        have L3 := fun W (hW : SinceOf y3.wd W) => length_any A3 c3 T3.1 W (R3.out.of hW) (by omega)
        by_cases hok : (vxs X).all okB = true
        · have hall : ∀ r ∈ vxs X, okB r = true := List.all_eq_true.1 hok
          have hxok : okB xs = true := hall _ HM.out
          have q1 : onceR (vxs X) = (onceF [] (vxs X), 0) := by unfold onceR; rw [vxs_len, if_neg (by omega), if_pos hok]
          have q2 : onceR (vxs X).reverse = (onceF [] (vxs X).reverse, 0) := by unfold onceR; rw [List.length_reverse, vxs_len, if_neg (by omega), if_pos (by rw [List.all_reverse]; exact hok)]
          have q3 : T3 = (onceF [] (vxs X ++ [xs]), 0) := by rw [HT.out]; unfold onceR; rw [List.length_append, vxs_len, if_neg (by simp; omega), if_pos (by rw [List.all_append, hok]; simp [hxok])]
          have f2 := once_back hall
          have f3 := once_twice hall HM.out
          rw [q1] at L1
          rw [q2] at L2
          rw [q3] at L3
          rw [q1, q2, q3]
          simp only at L1 L2 L3 ⊢
          rw [f2] at L2
          rw [f3] at L3
          obtain ⟨ln, hln⟩ : ∃ ln, ln = lenE (onceF [] (vxs X)) := ⟨_, rfl⟩
          rw [← hln] at L1 L2 L3
          have HLN := Lib.hid (And.intro hln hall)
          generalize (onceF [] (vxs X)).length = n1 at *
          generalize (onceF [] (vxs X).reverse).length = n2 at *
          generalize (onceF [] (vxs X ++ [xs])).length = n3 at *
          clear q1 q2 q3 f2 f3 hln hall R1 R2 R3 l1 l2 l3
          go_wp2_with fail
          refine (L1 _ (by (repeat (first | (with_reducible exact SinceOf.refl _) | (with_reducible assumption) | (with_reducible refine SinceOf.alloc ?_ _) | (with_reducible refine SinceOf.drew ?_) | (with_reducible refine SinceOf.drewN ?_ _) | (with_reducible refine SinceOf.later ?_ _) | (with_reducible refine SinceOf.further ?_ _) | (with_reducible refine SinceOf.setCell ?_ (by first | exact Nat.le_refl _ | (simp; done) | omega | (simp; omega)) _))))).calls.mono ?_
          rintro e _ ⟨rfl, v1, rfl⟩
          clear L1
          go_wp2_with fail
          refine (L2 _ (by (repeat (first | (with_reducible exact SinceOf.refl _) | (with_reducible assumption) | (with_reducible refine SinceOf.alloc ?_ _) | (with_reducible refine SinceOf.drew ?_) | (with_reducible refine SinceOf.drewN ?_ _) | (with_reducible refine SinceOf.later ?_ _) | (with_reducible refine SinceOf.further ?_ _) | (with_reducible refine SinceOf.setCell ?_ (by first | exact Nat.le_refl _ | (simp; done) | omega | (simp; omega)) _))))).calls.mono ?_
          rintro e _ ⟨rfl, v2, rfl⟩
          clear L2
          go_wp2_with fail
          refine (L3 _ (by (repeat (first | (with_reducible exact SinceOf.refl _) | (with_reducible assumption) | (with_reducible refine SinceOf.alloc ?_ _) | (with_reducible refine SinceOf.drew ?_) | (with_reducible refine SinceOf.drewN ?_ _) | (with_reducible refine SinceOf.later ?_ _) | (with_reducible refine SinceOf.further ?_ _) | (with_reducible refine SinceOf.setCell ?_ (by first | exact Nat.le_refl _ | (simp; done) | omega | (simp; omega)) _))))).calls.mono ?_
          rintro e _ ⟨rfl, v3, rfl⟩
          clear L3
          have hsv : SinceOf w v3.wd := H4.out.trans (by (repeat (first | (with_reducible exact SinceOf.refl _) | (with_reducible assumption) | (with_reducible refine SinceOf.alloc ?_ _) | (with_reducible refine SinceOf.drew ?_) | (with_reducible refine SinceOf.drewN ?_ _) | (with_reducible refine SinceOf.later ?_ _) | (with_reducible refine SinceOf.further ?_ _) | (with_reducible refine SinceOf.setCell ?_ (by first | exact Nat.le_refl _ | (simp; done) | omega | (simp; omega)) _))))
          have hx3 := H.out.of (w' := v3.wd) hsv
          have hx30 := hx3.row
          by_cases hX1 : X.length = 1
          · have g1 : ((X.length : Int) == 1) = true := by rw [beq_iff_eq]; omega
            have AR := fun W (hW : SinceOf w W) => around_any xA xcc xs W (by have := (H.out.all _ (List.getElem_mem (show 0 < X.length by omega))).of hW; rw [← HX.out.2] at this; exact this.row) (by have := (okB_iff.1 hxok).most; omega)
            have hone : ln = lenE (edgesV xs) := by
              rw [HLN.out.1, ← once_one hxok]
              have : X = [⟨xA, xcc, xs⟩] := by
                rw [HX.out.2]
                have h1 : X.take (0 + 1) = X.take 0 ++ [X[0]'(by omega)] := List.take_succ_eq_append_getElem (by omega)
                rw [List.take_of_length_le (by omega)] at h1
                simpa using h1
              rw [this]; rfl
            rw [← hone] at AR
            have c0 : v3.wd.cell? ⟨g, off, none⟩ = some (.slice xA xs.length xcc) := by simp [go_sem, *]
            rw [hX1] at g1 ⊢
            clear hone hx3 hx30
            go_wp2_with fail
            refine (AR _ (hsv.trans (by (repeat (first | (with_reducible exact SinceOf.refl _) | (with_reducible assumption) | (with_reducible refine SinceOf.alloc ?_ _) | (with_reducible refine SinceOf.drew ?_) | (with_reducible refine SinceOf.drewN ?_ _) | (with_reducible refine SinceOf.later ?_ _) | (with_reducible refine SinceOf.further ?_ _) | (with_reducible refine SinceOf.setCell ?_ (by first | exact Nat.le_refl _ | (simp; done) | omega | (simp; omega)) _)))))).calls.mono ?_
            rintro e _ ⟨rfl, v4, rfl⟩
            go_wp2_with fail
            go_returns
            exact ⟨by simp, hsv.trans (by (repeat (first | (with_reducible exact SinceOf.refl _) | (with_reducible assumption) | (with_reducible refine SinceOf.alloc ?_ _) | (with_reducible refine SinceOf.drew ?_) | (with_reducible refine SinceOf.drewN ?_ _) | (with_reducible refine SinceOf.later ?_ _) | (with_reducible refine SinceOf.further ?_ _) | (with_reducible refine SinceOf.setCell ?_ (by first | exact Nat.le_refl _ | (simp; done) | omega | (simp; omega)) _))))⟩
          · have g1 : ((X.length : Int) == 1) = false := by rw [beq_eq_false_iff_ne]; omega
            obtain ⟨gq, offq, eq, hrq⟩ := hx30.at_ (by omega)
            injection eq with eq
            injection eq with e1 e2 e3
            subst e1 e2
            have k1 := hrq.g0 1 (by omega)
            have k2 := hrq.g0 0 (by omega)
            obtain ⟨y, hy⟩ : ∃ y, y = X[1]'(by omega) := ⟨_, rfl⟩
            rw [← hy] at k1
            rw [← HX.out.2] at k2
            have hyv : y.xs ∈ vxs X := by rw [hy]; exact List.mem_map.2 ⟨_, List.getElem_mem _, rfl⟩
            have hyok : okB y.xs = true := HLN.out.2 _ hyv
            have h2 : vxs (X.take 2) = [xs, y.xs] := by
              have h1 : X.take (0 + 1) = X.take 0 ++ [X[0]'(by omega)] := List.take_succ_eq_append_getElem (by omega)
              have h2 : X.take (1 + 1) = X.take 1 ++ [X[1]'(by omega)] := List.take_succ_eq_append_getElem (by omega)
              have h3 : X.take 2 = [⟨xA, xcc, xs⟩, y] := by
                rw [HX.out.2, hy]
                rw [show X.take 2 = X.take (1 + 1) from rfl, h2, show X.take 1 = X.take (0 + 1) from rfl, h1]
                simp
              rw [h3]; rfl
            have hI2 : IsRings w (some ⟨g, off, none⟩) c (X.take 2) := ⟨H.out.row.take 2, fun q hq => H.out.all q (List.mem_of_mem_take hq), by rw [List.length_take]; omega⟩
            have hl2 : (X.take 2).length = 2 := by rw [List.length_take]; omega
            have O2 := fun W (hW : SinceOf w W) => once_any (some ⟨g, off, none⟩) c (X.take 2) W (hI2.of hW)
            rw [h2, hl2] at O2
            have q2 : onceR [xs, y.xs] = (onceF [] [xs, y.xs], 0) := by unfold onceR; rw [if_neg (by simp), if_pos (by simp [hxok, hyok])]
            rw [q2] at O2
            simp only at O2
            have two := once_two hxok hyok
            have hrx := fun W (hW : SinceOf w W) => ((H.out.all _ (List.getElem_mem (show 0 < X.length by omega))).of hW)
            rw [← HX.out.2] at hrx
            have hry := fun W (hW : SinceOf w W) => ((H.out.all _ (List.getElem_mem (show 1 < X.length by omega))).of hW)
            rw [← hy] at hry
            have AR0 := fun W (hW : SinceOf w W) => around_any xA xcc xs W (hrx W hW).row (by have := (okB_iff.1 hxok).most; omega)
            have AR1 := fun W (hW : SinceOf w W) => around_any y.A y.c y.xs W (hry W hW).row (by have := (okB_iff.1 hyok).most; omega)
            have SH := fun W (hW : SinceOf w W) => share_any xA y.A xcc y.c xs y.xs W (hrx W hW).row (hry W hW).row (hrx W hW).len (hry W hW).len
            obtain ⟨t2, ht2⟩ : ∃ t, t = onceF [] [xs, y.xs] := ⟨_, rfl⟩
            obtain ⟨sh, hsh⟩ : ∃ t, t = shareR xs y.xs := ⟨_, rfl⟩
            rw [← ht2] at O2 two
            rw [← hsh] at SH two
            obtain ⟨la, hla⟩ : ∃ t, t = lenE (edgesV xs) := ⟨_, rfl⟩
            obtain ⟨lb, hlb⟩ : ∃ t, t = lenE (edgesV y.xs) := ⟨_, rfl⟩
            rw [← hla] at AR0 two
            rw [← hlb] at AR1 two
            obtain ⟨ls, hls⟩ : ∃ t, t = lenE sh := ⟨_, rfl⟩
            obtain ⟨lt, hlt⟩ : ∃ t, t = lenE t2 := ⟨_, rfl⟩
            rw [← hls, ← hlt] at two
            have HTW := Lib.hid (And.intro two (And.intro hls hlt))
            obtain ⟨yA, ycc, ys⟩ := y
            simp only at k1 AR1 SH
            clear two hls hlt hla hlb ht2 hsh hrx hry q2 h2 hI2 hl2 hyv hy hrq hx3 hx30 hyok hxok
            rw [Nat.add_zero] at k2
            have b5 : (1 : Int) < X.length := by omega
            have b6 : (0 : Int) < X.length := by omega
            have b7 : (2 : Int) ≤ (c : Int) := by omega
            have b8 : 1 < X.length := by omega
            have b9 : 0 < X.length := by omega
            have b10 : ¬ X = [] := fun e => hX0 (by rw [e]; rfl)
            go_wp2_with fail
            refine (O2 _ (hsv.trans (by (repeat (first | (with_reducible exact SinceOf.refl _) | (with_reducible assumption) | (with_reducible refine SinceOf.alloc ?_ _) | (with_reducible refine SinceOf.drew ?_) | (with_reducible refine SinceOf.drewN ?_ _) | (with_reducible refine SinceOf.later ?_ _) | (with_reducible refine SinceOf.further ?_ _) | (with_reducible refine SinceOf.setCell ?_ (by first | exact Nat.le_refl _ | (simp; done) | omega | (simp; omega)) _)))))).mono ?_
            rintro e _ ⟨A4, c4, rfl, o4, l4, ⟨v4, rfl⟩⟩
            have hr4 := o4.isRow encE_len
            have LT := fun W (hW : SinceOf v4.wd W) => length_any A4 c4 t2 W (hr4.of hW) (by omega)
            rw [← HTW.out.2.2] at LT
            generalize t2.length = tl at *
            have hsv4 : SinceOf w v4.wd := hsv.trans (by (repeat (first | (with_reducible exact SinceOf.refl _) | (with_reducible assumption) | (with_reducible refine SinceOf.alloc ?_ _) | (with_reducible refine SinceOf.drew ?_) | (with_reducible refine SinceOf.drewN ?_ _) | (with_reducible refine SinceOf.later ?_ _) | (with_reducible refine SinceOf.further ?_ _) | (with_reducible refine SinceOf.setCell ?_ (by first | exact Nat.le_refl _ | (simp; done) | omega | (simp; omega)) _))))
            have c0 : v4.wd.cell? ⟨g, off, none⟩ = some (.slice xA xs.length xcc) := by simp [go_sem, *]
            have c1' : v4.wd.cell? ⟨g, off + 1, none⟩ = some (.slice yA ys.length ycc) := by simp [go_sem, *]
            have ho4 : Nonempty (Old v4.wd g) := inferInstance
            have HV4 := Lib.hid hsv4
            clear o4 hr4 O2 hsv k1 k2 k0 hsv4
            go_wp2_with fail
            go_region_held3 (fun w' => w'.cell? ⟨g, off, none⟩ = some (.slice xA xs.length xcc) ∧ w'.cell? ⟨g, off + 1, none⟩ = some (.slice yA ys.length ycc)) ((simp [go_sem, *]))
              (first
                | (go_at_call 8; (with_reducible refine (AR0 _ (HV4.out.trans (by (repeat (first | (with_reducible exact SinceOf.refl _) | (with_reducible assumption) | (with_reducible refine SinceOf.alloc ?_ _) | (with_reducible refine SinceOf.drew ?_) | (with_reducible refine SinceOf.drewN ?_ _) | (with_reducible refine SinceOf.later ?_ _) | (with_reducible refine SinceOf.further ?_ _) | (with_reducible refine SinceOf.setCell ?_ (by first | exact Nat.le_refl _ | (simp; done) | omega | (simp; omega)) _)))))).calls.mono ?_); rintro e _ ⟨rfl, u1, rfl⟩)
                | (go_at_call 8; (with_reducible refine (AR1 _ (HV4.out.trans (by (repeat (first | (with_reducible exact SinceOf.refl _) | (with_reducible assumption) | (with_reducible refine SinceOf.alloc ?_ _) | (with_reducible refine SinceOf.drew ?_) | (with_reducible refine SinceOf.drewN ?_ _) | (with_reducible refine SinceOf.later ?_ _) | (with_reducible refine SinceOf.further ?_ _) | (with_reducible refine SinceOf.setCell ?_ (by first | exact Nat.le_refl _ | (simp; done) | omega | (simp; omega)) _)))))).calls.mono ?_); rintro e _ ⟨rfl, u2, rfl⟩)
                | (go_at_call 9; (with_reducible refine (SH _ (HV4.out.trans (by (repeat (first | (with_reducible exact SinceOf.refl _) | (with_reducible assumption) | (with_reducible refine SinceOf.alloc ?_ _) | (with_reducible refine SinceOf.drew ?_) | (with_reducible refine SinceOf.drewN ?_ _) | (with_reducible refine SinceOf.later ?_ _) | (with_reducible refine SinceOf.further ?_ _) | (with_reducible refine SinceOf.setCell ?_ (by first | exact Nat.le_refl _ | (simp; done) | omega | (simp; omega)) _)))))).mono ?_); rintro e _ ⟨A5, c5, rfl, o5, l5, ⟨u3, rfl⟩⟩; have LS := fun W (hW : SinceOf u3.wd W) => length_any A5 c5 sh W ((o5.isRow encE_len).of hW) (by omega); rw [← HTW.out.2.1] at LS; clear o5)
                | (go_at_call 7; (with_reducible refine (LT _ (by (repeat (first | (with_reducible exact SinceOf.refl _) | (with_reducible assumption) | (with_reducible refine SinceOf.alloc ?_ _) | (with_reducible refine SinceOf.drew ?_) | (with_reducible refine SinceOf.drewN ?_ _) | (with_reducible refine SinceOf.later ?_ _) | (with_reducible refine SinceOf.further ?_ _) | (with_reducible refine SinceOf.setCell ?_ (by first | exact Nat.le_refl _ | (simp; done) | omega | (simp; omega)) _))))).calls.mono ?_); rintro e _ ⟨rfl, u4, rfl⟩)
                | (go_at_call 7; (with_reducible refine (LS _ (by (repeat (first | (with_reducible exact SinceOf.refl _) | (with_reducible assumption) | (with_reducible refine SinceOf.alloc ?_ _) | (with_reducible refine SinceOf.drew ?_) | (with_reducible refine SinceOf.drewN ?_ _) | (with_reducible refine SinceOf.later ?_ _) | (with_reducible refine SinceOf.further ?_ _) | (with_reducible refine SinceOf.setCell ?_ (by first | exact Nat.le_refl _ | (simp; done) | omega | (simp; omega)) _))))).calls.mono ?_); rintro e _ ⟨rfl, u5, rfl⟩))
            all_goals
              go_wp2_with fail
              go_returns
              exact ⟨by (have tw := HTW.out.1; unfold wsub wadd at tw; rw [← IntWalk.i64_left, ← IntWalk.i64_left] at tw; first | (simp [tw]; done) | (rw [tw]; simp; done)), HV4.out.trans (by (repeat (first | (with_reducible exact SinceOf.refl _) | (with_reducible assumption) | (with_reducible refine SinceOf.alloc ?_ _) | (with_reducible refine SinceOf.drew ?_) | (with_reducible refine SinceOf.drewN ?_ _) | (with_reducible refine SinceOf.later ?_ _) | (with_reducible refine SinceOf.further ?_ _) | (with_reducible refine SinceOf.setCell ?_ (by first | exact Nat.le_refl _ | (simp; done) | omega | (simp; omega)) _))))⟩
        · have hne : ∀ rs : List (List Pt), rs.all okB = false → rs.length ≤ 120 → onceR rs = ([], 11) := fun rs h1 h2 => by unfold onceR; rw [if_neg (by omega), if_neg (by rw [h1]; simp)]
          have hf : (vxs X).all okB = false := Bool.eq_false_iff.2 hok
          have q1 := hne (vxs X) hf (by rw [vxs_len]; omega)
          have q2 := hne (vxs X).reverse (by rw [List.all_reverse]; exact hf) (by rw [List.length_reverse, vxs_len]; omega)
          have q3 : T3 = ([], 11) := by rw [HT.out]; exact hne _ (by rw [List.all_append, hf]; rfl) (by rw [List.length_append, vxs_len]; simp; omega)
          rw [q1, q2, q3]
          clear L1 L2 L3 q1 q2 q3 hne
          go_wp2_with fail
          go_returns
          exact ⟨rfl, H4.out.trans (by (repeat (first | (with_reducible exact SinceOf.refl _) | (with_reducible assumption) | (with_reducible refine SinceOf.alloc ?_ _) | (with_reducible refine SinceOf.drew ?_) | (with_reducible refine SinceOf.drewN ?_ _) | (with_reducible refine SinceOf.later ?_ _) | (with_reducible refine SinceOf.further ?_ _) | (with_reducible refine SinceOf.setCell ?_ (by first | exact Nat.le_refl _ | (simp; done) | omega | (simp; omega)) _))))⟩
end Go.Proofs.Ytkpnffokjpgalaa
