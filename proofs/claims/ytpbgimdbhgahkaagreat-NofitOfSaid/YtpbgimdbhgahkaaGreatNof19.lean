/- Layer 16: Move and Join of the program; few. -/
import Derived.Test.YtpbgimdbhgahkaaGreatNofP5
import Derived.Deep.RegionHeld3
import Derived.Test.YtpbgimdbhgahkaaGreatNof12
namespace Go.Proofs.YtpbgimdbhgahkaaGreat
open Go.RowKit Go.Sort
set_option linter.unusedVariables false
set_option linter.unusedSimpArgs false
attribute [local go_sem ↓] Go.wp_at_zero Go.wp_at_succ

/-- What is left to move, behind what is made. -/
def MovP (v : Pt) : List (List Pt) → List (List Pt) → List (List Pt) × Int → Prop
  | [], acc, out => out = (acc, 0)
  | x :: xs, acc, out => ∃ o, MoveV x v o ∧ if o.2 = 0 then MovP v xs (acc ++ [o.1]) out else out = ([], o.2)
theorem MovP.unique {v : Pt} : ∀ {xs acc : List (List Pt)} {a b : List (List Pt) × Int}, MovP v xs acc a → MovP v xs acc b → a = b
  | [], _, _, _, h, k => h.trans k.symm
  | x :: xs, acc, a, b, ⟨o, h1, h2⟩, ⟨o', k1, k2⟩ => by
    obtain rfl := h1.unique k1
    split at h2
    · rw [if_pos (by assumption)] at k2; exact MovP.unique h2 k2
    · rw [if_neg (by assumption)] at k2; exact h2.trans k2.symm
theorem MovP.ok {v : Pt} {m k : Int} (hmk : m + k ≤ 8000) (hm0 : 0 ≤ m) (nv : near k v) {n : Nat} : ∀ {ms acc : List (List Pt)} {out : List (List Pt) × Int}, (∀ s ∈ ms, RingN m n s) → MovP v ms acc out → out.2 = 0 ∧ ∃ ts, out.1 = acc ++ ts ∧ ts.length = ms.length ∧ (∀ t ∈ ts, ∃ s ∈ ms, HullY (s.map (fun p => addP p v)) t ∧ RingN (m + k) n t) ∧ (∀ s ∈ ms, ∃ t ∈ ts, HullY (s.map (fun p => addP p v)) t ∧ RingN (m + k) n t)
  | [], acc, out, _, h => by
    rw [show out = (acc, 0) from h]
    exact ⟨rfl, [], by simp, rfl, (fun t ht => by cases ht), (fun t ht => by cases ht)⟩
  | x :: xs, acc, out, hx, ⟨o, h1, h2⟩ => by
    obtain ⟨c, nr, ln⟩ := hx x (by simp)
    obtain ⟨q0, q1, q2, q3, q4⟩ := h1.ok hmk hm0 c nr nv
    rw [if_pos q0] at h2
    obtain ⟨e, ts, e1, e2, e3, e4⟩ := MovP.ok hmk hm0 nv (fun s hs => hx s (by simp [hs])) h2
    have ho : RingN (m + k) n o.1 := ⟨q2, q3, by omega⟩
    refine ⟨e, o.1 :: ts, by rw [e1]; simp, by simp [e2], fun t ht => ?_, fun s hs => ?_⟩
    · rcases List.mem_cons.1 ht with rfl | ht
      · exact ⟨x, by simp, q1, ho⟩
      · obtain ⟨s, hs, q⟩ := e3 t ht
        exact ⟨s, by simp [hs], q⟩
    · rcases List.mem_cons.1 hs with rfl | hs
      · exact ⟨o.1, by simp, q1, ho⟩
      · obtain ⟨t, ht, q⟩ := e4 s hs
        exact ⟨t, by simp [ht], q⟩
theorem MoveV.canon {r : List Pt} {v : Pt} {o : List Pt × Int} (h : MoveV r v o) (h0 : o.2 = 0) : CanonR o.1 := by
  unfold MoveV at h
  split at h
  · rename_i hv
    have hC := validB_iff.1 hv
    split at h
    · rename_i hw
      exact hullY_canon h.1 (List.all_eq_true.2 fun p hp => List.all_eq_true.1 hw.2 p (h.1.hull.sub p hp)) (by rw [h.2.1]; exact hC.2.1)
    · rw [h] at h0; cases h0
  · rw [h] at h0; cases h0
set_option maxRecDepth 100000 in
set_option maxHeartbeats 16000000 in
theorem nofMove_any (B : Option Addr) (d : Nat) (Y : List RgR) (vx vy : Int) (w : World) (h2 : IsRings w B d Y) (hY : Y.length ≤ 1000) :
    Calls Tryz.prog 8 #[.slice B Y.length d, vv vx vy] w fun e w' => ∃ B' d' Z err, e = .returned (.tuple #[.slice B' Z.length d', .int .i64 err]) ∧ MovP (vx, vy) (vxs Y) [] (vxs Z, err) ∧ ListRes w w' B' d' Z := by
  have H := Lib.hid h2
  clear h2
  obtain ⟨i0, hi, hz0, hz1, hz2⟩ := info_parts infoRing
  have HI := Lib.hid (And.intro hi (And.intro hz0 (And.intro hz1 hz2)))
  clear hi hz0 hz1 hz2
  unfold ListRes
  go_enter Tryz.func8, Tryz.ntmps8
  go_wp2_with fail
  have HVB := Lib.hid (VarV.new w vx vy 24)
  go_loopg [6, 13] Y.length (fun gas s6 s13 wr => ∃ (k : Nat) (A3 : Option Addr) (c3 n3 : Nat) (Z3 : List RgR), k ≤ Y.length ∧ Y.length - k ≤ gas ∧ n3 = Z3.length ∧ n3 = k ∧ s6 = .slice A3 n3 c3 ∧ s13 = .int .i64 k ∧ OwnRings (w.heap.size + 1) wr A3 c3 Z3 ∧ (∀ z ∈ Z3, ∀ b, blockOf z.A = some b → w.heap.size ≤ b) ∧ (∀ out, MovP (vx, vy) ((vxs Y).drop k) (vxs Z3) out → MovP (vx, vy) (vxs Y) [] out) ∧ SinceOf (w.alloc (.cells #[.int .i64 vx, .int .i64 vy] 24)) wr)
  case atStart => exact ⟨0, none, 0, 0, [], by omega, by omega, rfl, rfl, rfl, rfl, OwnRings.nil _ _, (fun z hz => by cases hz), fun out ho => ho, by (repeat (first | (with_reducible exact SinceOf.refl _) | (with_reducible assumption) | (with_reducible refine SinceOf.alloc ?_ _) | (with_reducible refine SinceOf.drew ?_) | (with_reducible refine SinceOf.drewN ?_ _) | (with_reducible refine SinceOf.later ?_ _) | (with_reducible refine SinceOf.further ?_ _) | (with_reducible refine SinceOf.setCell ?_ (by first | exact Nat.le_refl _ | (simp; done) | omega | (simp; omega)) _)))⟩
  case round =>
    obtain ⟨k, A3, c3, n3, Z3, hk, hgas, hn3, hnk, rfl, rfl, ho3, hf3, hp3, ⟨v, rfl⟩⟩ := hrel
    have hvs := v.size
    simp only [World.size_alloc] at hvs
    by_cases hlt : k < Y.length
    · have hy0 := H.out.of (w' := v.wd) (by (repeat (first | (with_reducible exact SinceOf.refl _) | (with_reducible assumption) | (with_reducible refine SinceOf.alloc ?_ _) | (with_reducible refine SinceOf.drew ?_) | (with_reducible refine SinceOf.drewN ?_ _) | (with_reducible refine SinceOf.later ?_ _) | (with_reducible refine SinceOf.further ?_ _) | (with_reducible refine SinceOf.setCell ?_ (by first | exact Nat.le_refl _ | (simp; done) | omega | (simp; omega)) _))))
      obtain ⟨g3, off3, rfl, hr3⟩ := hy0.row.at_ (by omega)
      have hO3 := hr3.there
      have m0 := hr3.g0 k hlt
      have VZ := HVB.out.of (W' := v.wd) (by (repeat (first | (with_reducible exact SinceOf.refl _) | (with_reducible assumption) | (with_reducible refine SinceOf.alloc ?_ _) | (with_reducible refine SinceOf.drew ?_) | (with_reducible refine SinceOf.drewN ?_ _) | (with_reducible refine SinceOf.later ?_ _) | (with_reducible refine SinceOf.further ?_ _) | (with_reducible refine SinceOf.setCell ?_ (by first | exact Nat.le_refl _ | (simp; done) | omega | (simp; omega)) _))))
      have q0 := VZ.c0
      have q1 := VZ.c1
      have hOv : Nonempty (Old v.wd w.heap.size) := ⟨⟨VZ.lt⟩⟩
      simp only at q0 q1
      have hry : IsRing v.wd Y[k] := hy0.all _ (List.getElem_mem hlt)
      have hd : (vxs Y).drop k = Y[k].xs :: (vxs Y).drop (k + 1) := by
        rw [List.drop_eq_getElem_cons (by rw [vxs_len]; exact hlt), vxs_at hlt]
      rw [hd] at hp3
      obtain ⟨y, hy⟩ : ∃ y, y = Y[k] := ⟨_, rfl⟩
      rw [← hy] at m0 hry hp3
      have SU := fun W (hW : SinceOf v.wd W) => move_any y.A y.c y.xs vx vy W (hry.of hW).row hry.len
      have HQ := Lib.hid (And.intro ho3 (And.intro hn3 (And.intro hnk (And.intro hf3 hp3))))
      have hn3b : n3 ≤ 1000 := by omega
      clear ho3 hn3 hnk hf3 hp3 hry hy hr3 hy0 hd VZ
      go_wp2_with fail
      refine (SU _ (by (repeat (first | (with_reducible exact SinceOf.refl _) | (with_reducible assumption) | (with_reducible refine SinceOf.alloc ?_ _) | (with_reducible refine SinceOf.drew ?_) | (with_reducible refine SinceOf.drewN ?_ _) | (with_reducible refine SinceOf.later ?_ _) | (with_reducible refine SinceOf.further ?_ _) | (with_reducible refine SinceOf.setCell ?_ (by first | exact Nat.le_refl _ | (simp; done) | omega | (simp; omega)) _))))).mono ?_
      rintro e _ ⟨A4, c4, o, rfl, hs4, hv4, hc4, hf4, ⟨x4, rfl⟩⟩
      have hx4 := x4.size
      by_cases h0 : o.2 = 0
      · have g0 : (o.2 != 0) = false := by simp [h0]
        have ok := hs4.canon h0
        have hpos : 0 < o.1.length := by have := ok.1.1; omega
        have hl160 := ok.1.2.1
        have hR : IsRing x4.wd ⟨A4, c4, o.1⟩ := ⟨hv4, by show o.1.length < _; omega, hc4⟩
        have hlt4 : ∀ b, blockOf A4 = some b → b < x4.wd.heap.size := fun b hb => hv4.block_lt hpos hb
        have hnew : ∀ out, MovP (vx, vy) ((vxs Y).drop (k + 1)) (vxs (Z3 ++ [⟨A4, c4, o.1⟩])) out → MovP (vx, vy) (vxs Y) [] out := fun out hout => by
          refine HQ.out.2.2.2.2 out ⟨o, hs4, ?_⟩
          rw [if_pos h0]
          have : vxs (Z3 ++ [⟨A4, c4, o.1⟩]) = vxs Z3 ++ [o.1] := by simp [vxs]
          rwa [this] at hout
        have HR := Lib.hid (And.intro hR (And.intro hlt4 (And.intro hnew hf4)))
        have hol : Z3.length = n3 := HQ.out.2.1.symm
        clear hs4 hv4 hf4 hR hlt4 hnew ok hpos h0 SU hc4
        obtain ⟨l4, hl4⟩ : ∃ l4, l4 = o.1 := ⟨_, rfl⟩
        rw [← hl4] at HR hl160 ⊢
        clear hl4
        generalize o.2 = er at *
        go_wp2_with (at_builtin; refine wpList_append_row rfl (.tmp 26) (.tmp 28) 27 rfl encG_len (by omega) encG_one i0 _ 24 Tryz.underlying27 HI.out.1 HI.out.2.1 HI.out.2.2.1 HI.out.2.2.2 rfl (l := Z3) (A := A3) (c := c3) (base := w.heap.size + 1) (by rw [hol]; rfl) ((HQ.out.1.of (by (repeat (first | (with_reducible exact SinceOf.refl _) | (with_reducible assumption) | (with_reducible refine SinceOf.alloc ?_ _) | (with_reducible refine SinceOf.drew ?_) | (with_reducible refine SinceOf.drewN ?_ _) | (with_reducible refine SinceOf.later ?_ _) | (with_reducible refine SinceOf.further ?_ _) | (with_reducible refine SinceOf.setCell ?_ (by first | exact Nat.le_refl _ | (simp; done) | omega | (simp; omega)) _))))).own) (m := [⟨A4, c4, l4⟩]) rfl (isRow_atG _ _ ⟨A4, c4, l4⟩ (by first | rfl | simp)) (by rw [hol]; unfold maxLen; simp; omega) (by rw [hol]; simp; omega) (by simp; omega) ?_; intro A5 c5 w5 ho5 hgr5 hb5)
        have hpush := OwnRings.push ((HQ.out.1.of (w' := x4.wd) (by (repeat (first | (with_reducible exact SinceOf.refl _) | (with_reducible assumption) | (with_reducible refine SinceOf.alloc ?_ _) | (with_reducible refine SinceOf.drew ?_) | (with_reducible refine SinceOf.drewN ?_ _) | (with_reducible refine SinceOf.later ?_ _) | (with_reducible refine SinceOf.further ?_ _) | (with_reducible refine SinceOf.setCell ?_ (by first | exact Nat.le_refl _ | (simp; done) | omega | (simp; omega)) _))))).of (w' := x4.wd.alloc (.cells #[.slice A4 l4.length c4] 41)) (by (repeat (first | (with_reducible exact SinceOf.refl _) | (with_reducible assumption) | (with_reducible refine SinceOf.alloc ?_ _) | (with_reducible refine SinceOf.drew ?_) | (with_reducible refine SinceOf.drewN ?_ _) | (with_reducible refine SinceOf.later ?_ _) | (with_reducible refine SinceOf.further ?_ _) | (with_reducible refine SinceOf.setCell ?_ (by first | exact Nat.le_refl _ | (simp; done) | omega | (simp; omega)) _))))) (HR.out.1.of (w' := x4.wd.alloc (.cells #[.slice A4 l4.length c4] 41)) (by (repeat (first | (with_reducible exact SinceOf.refl _) | (with_reducible assumption) | (with_reducible refine SinceOf.alloc ?_ _) | (with_reducible refine SinceOf.drew ?_) | (with_reducible refine SinceOf.drewN ?_ _) | (with_reducible refine SinceOf.later ?_ _) | (with_reducible refine SinceOf.further ?_ _) | (with_reducible refine SinceOf.setCell ?_ (by first | exact Nat.le_refl _ | (simp; done) | omega | (simp; omega)) _))))) (fun b hb => ⟨by have := HR.out.2.1 b hb; simp; omega, fun e => by
          have q1 := (HQ.out.1.own.below b e).2
          have q2 := HR.out.2.2.2 b hb
          omega⟩) ho5 hgr5 hb5
        have HU := Lib.hid (And.intro hpush (SinceOf.grown (show SinceOf (w.alloc (.cells #[.int .i64 vx, .int .i64 vy] 24)) (x4.wd.alloc (.cells #[.slice A4 l4.length c4] 41)) by (repeat (first | (with_reducible exact SinceOf.refl _) | (with_reducible assumption) | (with_reducible refine SinceOf.alloc ?_ _) | (with_reducible refine SinceOf.drew ?_) | (with_reducible refine SinceOf.drewN ?_ _) | (with_reducible refine SinceOf.later ?_ _) | (with_reducible refine SinceOf.further ?_ _) | (with_reducible refine SinceOf.setCell ?_ (by first | exact Nat.le_refl _ | (simp; done) | omega | (simp; omega)) _)))) hgr5 (fun q hq => by have := (HQ.out.1.own.below q hq).1; simpa using this)))
        clear hpush ho5 hgr5 hb5
        go_roundg (Y.length - (k + 1))
        case measure => omega
        case rel =>
          refine ⟨k + 1, A5, c5, n3 + 1, Z3 ++ [⟨A4, c4, l4⟩], hlt, Nat.le_refl _, by simp [hol], by have := HQ.out.2.2.1; omega, (by first | rfl | (rw [hol]; try rfl)), by go_num, HU.out.1, fun q hq b hb => ?_, HR.out.2.2.1, HU.out.2⟩
          rcases List.mem_append.1 hq with hq | hq
          · exact HQ.out.2.2.2.1 q hq b hb
          · obtain rfl : q = ⟨A4, c4, l4⟩ := by simpa using hq
            have := HR.out.2.2.2 b hb
            omega
      · have g0 : (o.2 != 0) = true := by simpa using h0
        have HR := Lib.hid (show MovP (vx, vy) (vxs Y) [] ([], o.2) from HQ.out.2.2.2.2 _ ⟨o, hs4, by rw [if_neg h0]⟩)
        clear hs4 hv4 hf4 h0 SU hc4
        generalize o.2 = er at *
        go_wp2_with fail
        go_returns
        exact ⟨none, 0, [], er, rfl, HR.out, IsRings.nil _, (fun q hq => by cases hq), (fun b hb => by cases hb), Nat.le_refl _, by (repeat (first | (with_reducible exact SinceOf.refl _) | (with_reducible assumption) | (with_reducible refine SinceOf.alloc ?_ _) | (with_reducible refine SinceOf.drew ?_) | (with_reducible refine SinceOf.drewN ?_ _) | (with_reducible refine SinceOf.later ?_ _) | (with_reducible refine SinceOf.further ?_ _) | (with_reducible refine SinceOf.setCell ?_ (by first | exact Nat.le_refl _ | (simp; done) | omega | (simp; omega)) _)))⟩
    · obtain rfl : k = Y.length := by omega
      rw [List.drop_of_length_le (by rw [vxs_len]; exact Nat.le_refl _)] at hp3
      have hmov := hp3 _ (rfl : MovP (vx, vy) [] (vxs Z3) (vxs Z3, 0))
      have HQ := Lib.hid (And.intro hmov (And.intro (ho3.rings (by omega)) (And.intro hf3 (And.intro (fun b hb => (ho3.own.below b hb).1) (And.intro ho3.own.le_cap hn3)))))
      clear hp3 hmov ho3 hf3 hn3 hnk
      go_wp2_with fail
      go_returns
      exact ⟨A3, c3, Z3, 0, by rw [HQ.out.2.2.2.2.2]; rfl, HQ.out.1, HQ.out.2.1, HQ.out.2.2.1, fun b hb => by have := HQ.out.2.2.2.1 b hb; omega, HQ.out.2.2.2.2.1, by (repeat (first | (with_reducible exact SinceOf.refl _) | (with_reducible assumption) | (with_reducible refine SinceOf.alloc ?_ _) | (with_reducible refine SinceOf.drew ?_) | (with_reducible refine SinceOf.drewN ?_ _) | (with_reducible refine SinceOf.later ?_ _) | (with_reducible refine SinceOf.further ?_ _) | (with_reducible refine SinceOf.setCell ?_ (by first | exact Nat.le_refl _ | (simp; done) | omega | (simp; omega)) _)))⟩
@[go_sem] theorem eql_ring_nil (w : World) (A : Option Addr) (n c n' c' : Nat) : (binOp .eql 41 (.slice A n c) (.slice none n' c')).run Tryz.prog w = .ok (.bool A.isNone) w :=
  Lib.run_eql_slice_nil w _ _ A n c n' c' Tryz.underlying41
set_option maxRecDepth 100000 in
set_option maxHeartbeats 4000000 in
theorem cloneRing_any (A : Option Addr) (c : Nat) (r : List (Int × Int)) (w : World) (h : IsVecs w A c r) (hn : r.length ≤ 100000) :
    Calls Tryz.prog 25 #[.slice A r.length c] w fun e w' => ∃ A' c', e = .returned (.slice A' r.length c') ∧ OwnVecs w.heap.size w' A' c' r ∧ SinceOf w w' := by
  obtain ⟨i0, hi, hz0, hz1, hz2⟩ := info_parts infoVec
  have HI := Lib.hid (And.intro hi (And.intro hz0 (And.intro hz1 hz2)))
  have H := Lib.hid h
  clear hi hz0 hz1 hz2
  cases A with
  | none =>
    obtain rfl : c = 0 := h.1 rfl
    have hr : r = [] := by
      rcases h.2 with e | ⟨g, off, e, -⟩
      · exact e
      · cases e
    subst hr
    clear h
    go_enter Tryz.func25, Tryz.ntmps25
    go_wp2_with fail
    go_returns
    exact ⟨none, 0, rfl, Owns.nil _ _ _ _ _, by (repeat (first | (with_reducible exact SinceOf.refl _) | (with_reducible assumption) | (with_reducible refine SinceOf.alloc ?_ _) | (with_reducible refine SinceOf.drew ?_) | (with_reducible refine SinceOf.drewN ?_ _) | (with_reducible refine SinceOf.later ?_ _) | (with_reducible refine SinceOf.further ?_ _) | (with_reducible refine SinceOf.setCell ?_ (by first | exact Nat.le_refl _ | (simp; done) | omega | (simp; omega)) _)))⟩
  | some a =>
    clear h
    go_enter Tryz.func25, Tryz.ntmps25
    go_wp2_with (at_builtin; refine wpList_append_row rfl (.tmp 5) (.tmp 6) 41 rfl encV_len (by omega) encV_one i0 _ 16 Tryz.underlying41 HI.out.1 HI.out.2.1 HI.out.2.2.1 HI.out.2.2.2 rfl (l := []) (A := some ⟨w.heap.size, 0, none⟩) (c := 0) (base := w.heap.size) rfl (World.ownsRow_lit w #[] 0 (Nat.le_refl _) (Nat.zero_le _) rfl) (m := r) rfl (H.out.of (SinceOf.alloc (SinceOf.refl w) _)) (by unfold maxLen; simp; omega) (by simp; omega) (by simp) ?_; intro A5 c5 w5 ho5 hgr5 hb5)
    have HU := Lib.hid (And.intro ho5 (SinceOf.grown (show SinceOf w (w.alloc _) from SinceOf.alloc (SinceOf.refl w) _) hgr5 (fun q hq => by (have : q = w.heap.size := by simpa [blockOf] using hq.symm); omega)))
    clear ho5 hgr5 hb5
    go_wp2_with fail
    go_returns
    exact ⟨A5, c5, by first | rfl | simp, by simpa using HU.out.1, HU.out.2⟩
end Go.Proofs.YtpbgimdbhgahkaaGreat
/- Layer 16: Join of the program. -/
namespace Go.Proofs.YtpbgimdbhgahkaaGreat
open Go.RowKit Go.Sort
set_option linter.unusedVariables false
set_option linter.unusedSimpArgs false
attribute [local go_sem ↓] Go.wp_at_zero Go.wp_at_succ

abbrev OwnG (base : Nat) (w : World) (A : Option Addr) (c : Nat) (Y : List RgR) : Prop := Owns encG 1 base 41 w A c Y
set_option maxHeartbeats 4000000 in
set_option maxRecDepth 100000 in
theorem growR_any (n : Nat) (hn : n * 24 ≤ 140737488355328) (w : World) :
    Calls Tryz.prog 46 #[.slice none 0 0, .int .i64 n] w fun e w' => ∃ A' c', e = .returned (.slice A' 0 c') ∧ OwnG w.heap.size w' A' c' [] ∧ SinceOf w w' := by
  by_cases h0 : n = 0
  · subst h0
    go_enter Tryz.func46, Tryz.ntmps46
    go_wp2
    go_returns
    exact ⟨none, 0, rfl, Owns.nil _ _ _ _ _, SinceOf.refl _⟩
  · obtain ⟨i0, hi, hz0, hz1, hz2⟩ := info_parts infoRing
    have hold : (Builtin.firstCells i0.size 0 (.slice none 0 0)).run Tryz.prog w.drew = .ok #[] w.drew := run_firstCells_none w.drew i0.size 0 0 0
    have hrz : ∀ ty, (Builtin.append_ #[27, 3] ty #[.slice none 0 0, .int .i64 (n : Int)]).run Tryz.prog w =
        .ok (.slice (some ⟨w.heap.size, 0, none⟩) n (grownCap w n 0 41)) (w.drew.alloc (.cells (#[] ++ Builtin.zeroCells (Value.slice none 0 0).cells n ++ Builtin.zeroCells (Value.slice none 0 0).cells (grownCap w n 0 41 - n)) 41)) := fun ty => by
      have h := Lib.run_append_grow_zeros w 27 3 ty 41 i0 _ .i64 .i64 Tryz.underlying27 Tryz.underlying3 hi hz0 none 0 0 [] hold n (by omega) (by omega) (by omega) (by omega) (by rw [hz2]; omega) (by rw [Nat.zero_add, hz2]; exact growslice_fits (by omega) hn)
      simpa only [Nat.zero_add] using h
    have hGn : n ≤ grownCap w n 0 41 := grownCap_ge w _ _ _
    have hG63 : grownCap w n 0 41 ≤ maxLen := grownCap_le_maxLen w n 0 41 (by unfold maxLen; omega)
    have hG : ((#[] ++ Builtin.zeroCells (Value.slice none 0 0).cells n ++ Builtin.zeroCells (Value.slice none 0 0).cells (grownCap w n 0 41 - n))).size = grownCap w n 0 41 * 1 := by
      rw [Array.size_append, Array.size_append, size_zeroCells, size_zeroCells]
      show 0 + n * 1 + (grownCap w n 0 41 - n) * 1 = _
      omega
    generalize grownCap w n 0 41 = G at *
    generalize #[] ++ Builtin.zeroCells (Value.slice none 0 0).cells n ++ Builtin.zeroCells (Value.slice none 0 0).cells (G - n) = cs at *
    have hG2 : G ≤ 9223372036854775807 := by unfold maxLen at hG63; omega
    have HG := Lib.hid (And.intro hG hG63)
    have hnn : n < 4611686018427387904 := by omega
    clear hold hG hG63 hi hz0 hz1 hz2
    go_enter Tryz.func46, Tryz.ntmps46
    go_wp2_with (at_builtin; refine Lib.wpList_append_run _ rfl _ _ _ _ rfl _ _ rfl rfl _ _ (hrz _) ?_)
    go_returns
    refine ⟨some ⟨w.heap.size, 0, none⟩, G, rfl, ?_, by (repeat (first | (with_reducible exact SinceOf.refl _) | (with_reducible assumption) | (with_reducible refine SinceOf.alloc ?_ _) | (with_reducible refine SinceOf.drew ?_) | (with_reducible refine SinceOf.drewN ?_ _) | (with_reducible refine SinceOf.later ?_ _) | (with_reducible refine SinceOf.further ?_ _) | (with_reducible refine SinceOf.setCell ?_ (by first | exact Nat.le_refl _ | (simp; done) | omega | (simp; omega)) _)))⟩
    exact ⟨rfl, .inr ⟨w.heap.size, G, cs, rfl, Nat.le_refl _, heap_alloc_new w.drew _, Nat.zero_le _, HG.out.2, HG.out.1, by simp⟩⟩
def catR (l1 l2 : List RgR) (k : Nat) : List RgR := if k = 0 then [] else if k = 1 then l1 else l1 ++ l2
theorem catR_len (l1 l2 : List RgR) (k : Nat) : (catR l1 l2 k).length ≤ l1.length + l2.length := by unfold catR; split <;> (try split) <;> simp
set_option maxHeartbeats 4000000 in
set_option maxRecDepth 100000 in
theorem concatR_any (A1 A2 : Option Addr) (c1 c2 : Nat) (l1 l2 : List RgR) (g cp : Nat) (w : World) (h0 : w.cell? ⟨g, 0, none⟩ = some (.slice A1 l1.length c1)) (h1 : w.cell? ⟨g, 1, none⟩ = some (.slice A2 l2.length c2)) (hO : Nonempty (Old w g)) (hl1 : IsRow encG 1 w A1 c1 l1) (hl2 : IsRow encG 1 w A2 c2 l2) (hn : (l1.length + l2.length) * 24 ≤ 140737488355328) :
    Calls Tryz.prog 24 #[.slice (some ⟨g, 0, none⟩) 2 cp] w fun e w' => ∃ A' c', e = .returned (.slice A' (l1 ++ l2).length c') ∧ OwnG w.heap.size w' A' c' (l1 ++ l2) ∧ SinceOf w w' := by
  have hcell : ∀ k, k < 2 → ∃ (Ak : Option Addr) (lk : List RgR) (ck : Nat), w.cell? ⟨g, k, none⟩ = some (.slice Ak lk.length ck) ∧ IsRow encG 1 w Ak ck lk ∧ catR l1 l2 (k + 1) = catR l1 l2 k ++ lk := by
    intro k hk
    by_cases e : k = 0
    · subst e; exact ⟨A1, l1, c1, h0, hl1, by simp [catR]⟩
    · obtain rfl : k = 1 := by omega
      exact ⟨A2, l2, c2, h1, hl2, by simp [catR]⟩
  have H := Lib.hid hcell
  have hlen := fun k => catR_len l1 l2 k
  have HL := Lib.hid hlen
  obtain ⟨i0, hi, hz0, hz1, hz2⟩ := info_parts infoRing
  have HI := Lib.hid (And.intro hi (And.intro hz0 (And.intro hz1 hz2)))
  clear hcell h0 h1 hl1 hl2 hlen hi hz0 hz1 hz2
  go_enter Tryz.func24, Tryz.ntmps24
  go_wp2_with fail
  go_loopg [3, 11] 2 (fun gas s3 s11 wr => ∃ k z : Nat, k ≤ 2 ∧ 2 - k ≤ gas ∧ s11 = .int .i64 k ∧ s3 = .int .i64 z ∧ z = (catR l1 l2 k).length ∧ w = wr)
  case atStart => exact ⟨0, 0, by omega, by omega, rfl, rfl, rfl, rfl⟩
  case round =>
    obtain ⟨k, z, hk, hgas, rfl, rfl, hz, rfl⟩ := hrel
    by_cases hlt : k < 2
    · obtain ⟨Ak, lk, ck, hcell, -, hcat⟩ := H.out k hlt
      have hzl := HL.out (k + 1)
      rw [hcat, List.length_append, ← hz] at hzl
      have HZ := Lib.hid (show z + lk.length = (catR l1 l2 (k + 1)).length by rw [hcat, List.length_append, hz])
      clear hcat hz
      have hb : z + lk.length < 4611686018427387904 := by omega
      go_wp2_with fail
      go_roundg (2 - (k + 1))
      case measure => omega
      case rel => exact ⟨k + 1, z + lk.length, by omega, Nat.le_refl _, by go_num, by go_num, HZ.out, rfl⟩
    · obtain rfl : k = 2 := by omega
      have hz2 : z = (l1 ++ l2).length := hz
      have hzb : z ≤ l1.length + l2.length := by rw [hz2]; simp
      have HZ := Lib.hid hz2
      clear hz hz2
      go_wp2_with fail
      refine (growR_any z (by omega) _).mono ?_
      rintro e _ ⟨A3, c3, rfl, ho3, ⟨y, rfl⟩⟩
      have HO := Lib.hid ho3
      clear ho3
      go_wp2_with fail
      go_loopg [6, 27] 2 (fun gas s6 s27 wr => ∃ (k : Nat) (A' : Option Addr) (c' : Nat), k ≤ 2 ∧ 2 - k ≤ gas ∧ s27 = .int .i64 k ∧ s6 = .slice A' (catR l1 l2 k).length c' ∧ OwnG w.heap.size wr A' c' (catR l1 l2 k) ∧ SinceOf w wr)
      case atStart => exact ⟨0, A3, c3, by omega, by omega, rfl, rfl, HO.out, ⟨y, rfl⟩⟩
      case round =>
        obtain ⟨k, A4, c4, hk, hgas, rfl, rfl, hown, ⟨z2, rfl⟩⟩ := hrel
        by_cases hlt : k < 2
        · obtain ⟨Ak, lk, ck, hcell, hvk, hcat⟩ := H.out k hlt
          have hzl := HL.out (k + 1)
          rw [hcat, List.length_append] at hzl
          have hz2s := z2.size
          have HH := Lib.hid (And.intro hown (And.intro hvk hcat))
          generalize catR l1 l2 k = m at *
          clear hown hvk hcat
          go_wp2_with (at_builtin; refine wpList_append_row rfl (.tmp 31) (.tmp 32) 27 rfl encG_len (by omega) encG_one i0 _ 24 Tryz.underlying27 HI.out.1 HI.out.2.1 HI.out.2.2.1 HI.out.2.2.2 rfl (l := m) (A := A4) (c := c4) (base := w.heap.size) rfl HH.out.1 (m := lk) rfl (HH.out.2.1.of (by (repeat (first | (with_reducible exact SinceOf.refl _) | (with_reducible assumption) | (with_reducible refine SinceOf.alloc ?_ _) | (with_reducible refine SinceOf.drew ?_) | (with_reducible refine SinceOf.drewN ?_ _) | (with_reducible refine SinceOf.later ?_ _) | (with_reducible refine SinceOf.further ?_ _) | (with_reducible refine SinceOf.setCell ?_ (by first | exact Nat.le_refl _ | (simp; done) | omega | (simp; omega)) _))))) (by unfold maxLen; omega) (by omega) (by omega) ?_; intro A5 c5 w5 hown5 hgr5 hbl5)
          go_roundg (2 - (k + 1))
          case measure => omega
          case rel => exact ⟨k + 1, A5, c5, by omega, Nat.le_refl _, by go_num, by rw [HH.out.2.2, List.length_append], by rw [HH.out.2.2]; exact hown5, SinceOf.grown ⟨z2, rfl⟩ hgr5 (fun b hb => (HH.out.1.below b hb).1)⟩
        · obtain rfl : k = 2 := by omega
          have hown' : OwnG w.heap.size z2.wd A4 c4 (l1 ++ l2) := hown
          have HH := Lib.hid hown'
          rw [show catR l1 l2 2 = l1 ++ l2 from rfl]
          clear hown hown'
          obtain ⟨nn, hnn⟩ : ∃ nn, nn = (l1 ++ l2).length := ⟨_, rfl⟩
          rw [← hnn]
          have HN := Lib.hid hnn
          clear hnn
          go_wp2_with fail
          go_returns
          exact ⟨A4, c4, by rw [← HN.out]; rfl, HH.out, ⟨z2, rfl⟩⟩
set_option maxRecDepth 100000 in
set_option maxHeartbeats 16000000 in
theorem join_any (A B : Option Addr) (c d : Nat) (X Y : List RgR) (w : World) (h : IsRings w A c X) (h2 : IsRings w B d Y) (hX : X.length ≤ 1000) (hY : Y.length ≤ 1000) (hl1 : ∀ x ∈ X, x.xs.length ≤ 100000) (hl2 : ∀ x ∈ Y, x.xs.length ≤ 100000) :
    Calls Tryz.prog 10 #[.slice A X.length c, .slice B Y.length d] w fun e w' => ∃ B' d' Z, e = .returned (.slice B' Z.length d') ∧ vxs Z = vxs X ++ vxs Y ∧ IsRings w' B' d' Z ∧ Z.length ≤ d' ∧ SinceOf w w' := by
  obtain ⟨i0, hi, hz0, hz1, hz2⟩ := info_parts infoRing
  have HI := Lib.hid (And.intro hi (And.intro hz0 (And.intro hz1 hz2)))
  obtain ⟨L, hL⟩ : ∃ L, L = X ++ Y := ⟨_, rfl⟩
  have hLn : L.length ≤ 2000 := by rw [hL, List.length_append]; omega
  have hall : ∀ x ∈ L, IsRing w x ∧ x.xs.length ≤ 100000 := fun x hx => by
    rw [hL] at hx
    rcases List.mem_append.1 hx with q | q
    · exact ⟨h.all x q, hl1 x q⟩
    · exact ⟨h2.all x q, hl2 x q⟩
  have H := Lib.hid (And.intro h.row (And.intro h2.row (And.intro hall hL)))
  clear hi hz0 hz1 hz2 h h2 hl1 hl2 hall hL
  go_enter Tryz.func10, Tryz.ntmps10
  go_wp2_with fail
  refine (concatR_any A B c d X Y w.heap.size 2 _ (by simp [go_sem]) (by simp [go_sem]) inferInstance (H.out.1.of (by (repeat (first | (with_reducible exact SinceOf.refl _) | (with_reducible assumption) | (with_reducible refine SinceOf.alloc ?_ _) | (with_reducible refine SinceOf.drew ?_) | (with_reducible refine SinceOf.drewN ?_ _) | (with_reducible refine SinceOf.later ?_ _) | (with_reducible refine SinceOf.further ?_ _) | (with_reducible refine SinceOf.setCell ?_ (by first | exact Nat.le_refl _ | (simp; done) | omega | (simp; omega)) _))))) (H.out.2.1.of (by (repeat (first | (with_reducible exact SinceOf.refl _) | (with_reducible assumption) | (with_reducible refine SinceOf.alloc ?_ _) | (with_reducible refine SinceOf.drew ?_) | (with_reducible refine SinceOf.drewN ?_ _) | (with_reducible refine SinceOf.later ?_ _) | (with_reducible refine SinceOf.further ?_ _) | (with_reducible refine SinceOf.setCell ?_ (by first | exact Nat.le_refl _ | (simp; done) | omega | (simp; omega)) _))))) (by omega)).mono ?_
  rintro e _ ⟨A2, c2, rfl, ho2, ⟨x2, rfl⟩⟩
  have hx2 := x2.size
  simp only [World.size_alloc] at hx2
  rw [← H.out.2.2.2] at ho2
  have hLe : (X ++ Y).length = L.length := by rw [H.out.2.2.2]
  rw [hLe]
  have HO := Lib.hid ho2
  clear ho2 hLe
  go_wp2_with fail
  go_loopg [5, 13] L.length (fun gas s5 s13 wr => ∃ (k : Nat) (A3 : Option Addr) (c3 n3 : Nat) (Z3 : List RgR), k ≤ L.length ∧ L.length - k ≤ gas ∧ n3 = Z3.length ∧ n3 = k ∧ s5 = .slice A3 n3 c3 ∧ s13 = .int .i64 k ∧ OwnRings x2.wd.heap.size wr A3 c3 Z3 ∧ vxs Z3 = (vxs L).take k ∧ SinceOf x2.wd wr)
  case atStart => exact ⟨0, none, 0, 0, [], by omega, by omega, rfl, rfl, rfl, rfl, OwnRings.nil _ _, rfl, by (repeat (first | (with_reducible exact SinceOf.refl _) | (with_reducible assumption) | (with_reducible refine SinceOf.alloc ?_ _) | (with_reducible refine SinceOf.drew ?_) | (with_reducible refine SinceOf.drewN ?_ _) | (with_reducible refine SinceOf.later ?_ _) | (with_reducible refine SinceOf.further ?_ _) | (with_reducible refine SinceOf.setCell ?_ (by first | exact Nat.le_refl _ | (simp; done) | omega | (simp; omega)) _)))⟩
  case round =>
    obtain ⟨k, A3, c3, n3, Z3, hk, hgas, hn3, hnk, rfl, rfl, ho3, hp3, ⟨v, rfl⟩⟩ := hrel
    have hvs := v.size
    by_cases hlt : k < L.length
    · have hy0 := (HO.out.isRow encG_len).of (w' := v.wd) (by (repeat (first | (with_reducible exact SinceOf.refl _) | (with_reducible assumption) | (with_reducible refine SinceOf.alloc ?_ _) | (with_reducible refine SinceOf.drew ?_) | (with_reducible refine SinceOf.drewN ?_ _) | (with_reducible refine SinceOf.later ?_ _) | (with_reducible refine SinceOf.further ?_ _) | (with_reducible refine SinceOf.setCell ?_ (by first | exact Nat.le_refl _ | (simp; done) | omega | (simp; omega)) _))))
      obtain ⟨g3, off3, rfl, hr3⟩ := hy0.at_ (by omega)
      have hO3 := hr3.there
      have m0 := hr3.g0 k hlt
      have hry := H.out.2.2.1 _ (List.getElem_mem hlt)
      have hd : (vxs L).take (k + 1) = (vxs L).take k ++ [L[k].xs] := vxs_take hlt
      obtain ⟨y, hy⟩ : ∃ y, y = L[k] := ⟨_, rfl⟩
      rw [← hy] at m0 hry hd
      have hw : SinceOf w v.wd := by (repeat (first | (with_reducible exact SinceOf.refl _) | (with_reducible assumption) | (with_reducible refine SinceOf.alloc ?_ _) | (with_reducible refine SinceOf.drew ?_) | (with_reducible refine SinceOf.drewN ?_ _) | (with_reducible refine SinceOf.later ?_ _) | (with_reducible refine SinceOf.further ?_ _) | (with_reducible refine SinceOf.setCell ?_ (by first | exact Nat.le_refl _ | (simp; done) | omega | (simp; omega)) _)))
      have CL := fun W (hW : SinceOf v.wd W) => cloneRing_any y.A y.c y.xs W (hry.1.of (SinceOf.trans hw hW)).row hry.2
      have hyl := hry.2
      have HQ := Lib.hid (And.intro ho3 (And.intro hn3 (And.intro hnk (And.intro hp3 hd))))
      have hn3b : n3 ≤ 2000 := by omega
      clear ho3 hn3 hnk hp3 hry hy hr3 hy0 hd hw
      go_wp2_with fail
      refine (CL _ (by (repeat (first | (with_reducible exact SinceOf.refl _) | (with_reducible assumption) | (with_reducible refine SinceOf.alloc ?_ _) | (with_reducible refine SinceOf.drew ?_) | (with_reducible refine SinceOf.drewN ?_ _) | (with_reducible refine SinceOf.later ?_ _) | (with_reducible refine SinceOf.further ?_ _) | (with_reducible refine SinceOf.setCell ?_ (by first | exact Nat.le_refl _ | (simp; done) | omega | (simp; omega)) _))))).mono ?_
      rintro e _ ⟨A4, c4, rfl, ho4, ⟨x4, rfl⟩⟩
      have hx4 := x4.size
      have hR : IsRing x4.wd ⟨A4, c4, y.xs⟩ := ⟨ho4.isRow encV_len, by show y.xs.length < _; omega, ho4.le_cap⟩
      have hbl4 : ∀ b, blockOf A4 = some b → v.wd.heap.size ≤ b ∧ b < x4.wd.heap.size := fun b hb => ho4.below b hb
      have HR := Lib.hid (And.intro hR hbl4)
      have hol : Z3.length = n3 := HQ.out.2.1.symm
      clear ho4 hR hbl4 CL
      obtain ⟨l4, hl4⟩ : ∃ l4, l4 = y.xs := ⟨_, rfl⟩
      rw [← hl4] at HR hyl HQ ⊢
      clear hl4
      go_wp2_with (at_builtin; refine wpList_append_row rfl (.tmp 17) (.tmp 20) 27 rfl encG_len (by omega) encG_one i0 _ 24 Tryz.underlying27 HI.out.1 HI.out.2.1 HI.out.2.2.1 HI.out.2.2.2 rfl (l := Z3) (A := A3) (c := c3) (base := x2.wd.heap.size) (by rw [hol]; rfl) ((HQ.out.1.of (by (repeat (first | (with_reducible exact SinceOf.refl _) | (with_reducible assumption) | (with_reducible refine SinceOf.alloc ?_ _) | (with_reducible refine SinceOf.drew ?_) | (with_reducible refine SinceOf.drewN ?_ _) | (with_reducible refine SinceOf.later ?_ _) | (with_reducible refine SinceOf.further ?_ _) | (with_reducible refine SinceOf.setCell ?_ (by first | exact Nat.le_refl _ | (simp; done) | omega | (simp; omega)) _))))).own) (m := [⟨A4, c4, l4⟩]) rfl (isRow_atG _ _ ⟨A4, c4, l4⟩ (by first | rfl | simp)) (by rw [hol]; unfold maxLen; simp; omega) (by rw [hol]; simp; omega) (by simp; omega) ?_; intro A5 c5 w5 ho5 hgr5 hb5)
      have hpush := OwnRings.push ((HQ.out.1.of (w' := x4.wd) (by (repeat (first | (with_reducible exact SinceOf.refl _) | (with_reducible assumption) | (with_reducible refine SinceOf.alloc ?_ _) | (with_reducible refine SinceOf.drew ?_) | (with_reducible refine SinceOf.drewN ?_ _) | (with_reducible refine SinceOf.later ?_ _) | (with_reducible refine SinceOf.further ?_ _) | (with_reducible refine SinceOf.setCell ?_ (by first | exact Nat.le_refl _ | (simp; done) | omega | (simp; omega)) _))))).of (w' := x4.wd.alloc (.cells #[.slice A4 l4.length c4] 41)) (by (repeat (first | (with_reducible exact SinceOf.refl _) | (with_reducible assumption) | (with_reducible refine SinceOf.alloc ?_ _) | (with_reducible refine SinceOf.drew ?_) | (with_reducible refine SinceOf.drewN ?_ _) | (with_reducible refine SinceOf.later ?_ _) | (with_reducible refine SinceOf.further ?_ _) | (with_reducible refine SinceOf.setCell ?_ (by first | exact Nat.le_refl _ | (simp; done) | omega | (simp; omega)) _))))) (HR.out.1.of (w' := x4.wd.alloc (.cells #[.slice A4 l4.length c4] 41)) (by (repeat (first | (with_reducible exact SinceOf.refl _) | (with_reducible assumption) | (with_reducible refine SinceOf.alloc ?_ _) | (with_reducible refine SinceOf.drew ?_) | (with_reducible refine SinceOf.drewN ?_ _) | (with_reducible refine SinceOf.later ?_ _) | (with_reducible refine SinceOf.further ?_ _) | (with_reducible refine SinceOf.setCell ?_ (by first | exact Nat.le_refl _ | (simp; done) | omega | (simp; omega)) _))))) (fun b hb => ⟨by have := (HR.out.2 b hb).2; simp; omega, fun e => by
        have q1 := (HQ.out.1.own.below b e).2
        have q2 := (HR.out.2 b hb).1
        omega⟩) ho5 hgr5 hb5
      have HU := Lib.hid (And.intro hpush (SinceOf.grown (show SinceOf x2.wd (x4.wd.alloc (.cells #[.slice A4 l4.length c4] 41)) by (repeat (first | (with_reducible exact SinceOf.refl _) | (with_reducible assumption) | (with_reducible refine SinceOf.alloc ?_ _) | (with_reducible refine SinceOf.drew ?_) | (with_reducible refine SinceOf.drewN ?_ _) | (with_reducible refine SinceOf.later ?_ _) | (with_reducible refine SinceOf.further ?_ _) | (with_reducible refine SinceOf.setCell ?_ (by first | exact Nat.le_refl _ | (simp; done) | omega | (simp; omega)) _)))) hgr5 (fun q hq => (HQ.out.1.own.below q hq).1)))
      clear hpush ho5 hgr5 hb5
      go_roundg (L.length - (k + 1))
      case measure => omega
      case rel => exact ⟨k + 1, A5, c5, n3 + 1, Z3 ++ [⟨A4, c4, l4⟩], hlt, Nat.le_refl _, by simp [hol], by have := HQ.out.2.2.1; omega, (by first | rfl | (rw [hol]; try rfl)), by go_num, HU.out.1, by rw [HQ.out.2.2.2.2, ← HQ.out.2.2.2.1]; simp [vxs], HU.out.2⟩
    · obtain rfl : k = L.length := by omega
      rw [List.take_of_length_le (by rw [vxs_len]; exact Nat.le_refl _), H.out.2.2.2] at hp3
      have HQ := Lib.hid (And.intro (show vxs Z3 = vxs X ++ vxs Y by rw [hp3]; simp [vxs]) (And.intro (ho3.rings (by omega)) (And.intro ho3.own.le_cap hn3)))
      clear hp3 ho3 hn3 hnk
      go_wp2_with fail
      go_returns
      exact ⟨A3, c3, Z3, by rw [HQ.out.2.2.2]; rfl, HQ.out.1, HQ.out.2.1, HQ.out.2.2.1, by (repeat (first | (with_reducible exact SinceOf.refl _) | (with_reducible assumption) | (with_reducible refine SinceOf.alloc ?_ _) | (with_reducible refine SinceOf.drew ?_) | (with_reducible refine SinceOf.drewN ?_ _) | (with_reducible refine SinceOf.later ?_ _) | (with_reducible refine SinceOf.further ?_ _) | (with_reducible refine SinceOf.setCell ?_ (by first | exact Nat.le_refl _ | (simp; done) | omega | (simp; omega)) _)))⟩
end Go.Proofs.YtpbgimdbhgahkaaGreat
/- Layer 16: few and near; NofitExchange. -/
namespace Go.Proofs.YtpbgimdbhgahkaaGreat
open Go.RowKit Go.Sort
set_option linter.unusedVariables false
set_option linter.unusedSimpArgs false
attribute [local go_sem ↓] Go.wp_at_zero Go.wp_at_succ

def FewR (X : List RgR) : Prop := (∀ x ∈ X, x.xs.length ≤ 20) ∧ X.length ≤ 4
set_option maxRecDepth 100000 in
set_option maxHeartbeats 8000000 in
theorem fewL_any (A : Option Addr) (c : Nat) (X : List RgR) (w : World) (h : IsRings w A c X) :
    Calls Tryz.prog 5 #[.slice A X.length c] w fun e w' => ∃ b, e = .returned (.bool b) ∧ (b = true → FewR X) ∧ SinceOf w w' := by
  have hl := h.len
  have H := Lib.hid h
  clear h
  go_enter Tryz.func5, Tryz.ntmps5
  go_wp2_with fail
  go_loopg [3] X.length (fun gas s3 wr => ∃ i : Nat, s3 = .int .i64 i ∧ i ≤ X.length ∧ X.length - i ≤ gas ∧ (∀ x ∈ X.take i, x.xs.length ≤ 20) ∧ SinceOf w wr)
  case atStart => exact ⟨0, rfl, Nat.zero_le _, by omega, fun x hx => by simp at hx, by (repeat (first | (with_reducible exact SinceOf.refl _) | (with_reducible assumption) | (with_reducible refine SinceOf.alloc ?_ _) | (with_reducible refine SinceOf.drew ?_) | (with_reducible refine SinceOf.drewN ?_ _) | (with_reducible refine SinceOf.later ?_ _) | (with_reducible refine SinceOf.further ?_ _) | (with_reducible refine SinceOf.setCell ?_ (by first | exact Nat.le_refl _ | (simp; done) | omega | (simp; omega)) _)))⟩
  case round =>
    obtain ⟨i, rfl, hi, hgas, hall, ⟨z, rfl⟩⟩ := hrel
    by_cases hlt : i < X.length
    · obtain ⟨g, off, rfl, hr⟩ := (H.out.of (w' := z.wd) (by (repeat (first | (with_reducible exact SinceOf.refl _) | (with_reducible assumption) | (with_reducible refine SinceOf.alloc ?_ _) | (with_reducible refine SinceOf.drew ?_) | (with_reducible refine SinceOf.drewN ?_ _) | (with_reducible refine SinceOf.later ?_ _) | (with_reducible refine SinceOf.further ?_ _) | (with_reducible refine SinceOf.setCell ?_ (by first | exact Nat.le_refl _ | (simp; done) | omega | (simp; omega)) _))))).row.at_ (by omega)
      have hO := hr.there
      have k0 := hr.g0 i hlt
      have F := few15_any X[i].A X[i].xs.length X[i].c
      have hnx : ∀ (q : X[i].xs.length ≤ 20), ∀ x ∈ X.take (i + 1), x.xs.length ≤ 20 := fun q x hx => by
        rw [List.take_succ_eq_append_getElem hlt] at hx
        rcases List.mem_append.1 hx with e | e
        · exact hall x e
        · rw [List.mem_singleton.1 e]; exact q
      have HE := Lib.hid hnx
      clear hr hall hnx
      obtain ⟨x, hxe⟩ : ∃ x, x = X[i] := ⟨_, rfl⟩
      rw [← hxe] at k0 F HE
      clear hxe
      obtain ⟨xA, xc, xs⟩ := x
      simp only at k0 F HE
      by_cases ff : xs.length ≤ 20
      · rw [decide_eq_true ff] at F
        have HF := Lib.hid (HE.out ff)
        clear ff
        go_wp2_with fail
        refine (F _).calls.mono ?_
        rintro e _ ⟨rfl, x2, rfl⟩
        go_wp2_with fail
        go_roundg (X.length - (i + 1))
        case measure => omega
        case rel => exact ⟨i + 1, by go_num, hlt, Nat.le_refl _, HF.out, by (repeat (first | (with_reducible exact SinceOf.refl _) | (with_reducible assumption) | (with_reducible refine SinceOf.alloc ?_ _) | (with_reducible refine SinceOf.drew ?_) | (with_reducible refine SinceOf.drewN ?_ _) | (with_reducible refine SinceOf.later ?_ _) | (with_reducible refine SinceOf.further ?_ _) | (with_reducible refine SinceOf.setCell ?_ (by first | exact Nat.le_refl _ | (simp; done) | omega | (simp; omega)) _)))⟩
      · rw [decide_eq_false ff] at F
        go_wp2_with fail
        refine (F _).calls.mono ?_
        rintro e _ ⟨rfl, x2, rfl⟩
        go_wp2_with fail
        go_returns
        exact ⟨false, rfl, (fun e => by cases e), by (repeat (first | (with_reducible exact SinceOf.refl _) | (with_reducible assumption) | (with_reducible refine SinceOf.alloc ?_ _) | (with_reducible refine SinceOf.drew ?_) | (with_reducible refine SinceOf.drewN ?_ _) | (with_reducible refine SinceOf.later ?_ _) | (with_reducible refine SinceOf.further ?_ _) | (with_reducible refine SinceOf.setCell ?_ (by first | exact Nat.le_refl _ | (simp; done) | omega | (simp; omega)) _)))⟩
    · have hil : i = X.length := by omega
      subst hil
      rw [List.take_length] at hall
      have HE := Lib.hid hall
      clear hall
      go_wp2_with fail
      go_returns
      exact ⟨_, rfl, fun e => ⟨HE.out, by have := of_decide_eq_true e; omega⟩, by (repeat (first | (with_reducible exact SinceOf.refl _) | (with_reducible assumption) | (with_reducible refine SinceOf.alloc ?_ _) | (with_reducible refine SinceOf.drew ?_) | (with_reducible refine SinceOf.drewN ?_ _) | (with_reducible refine SinceOf.later ?_ _) | (with_reducible refine SinceOf.further ?_ _) | (with_reducible refine SinceOf.setCell ?_ (by first | exact Nat.le_refl _ | (simp; done) | omega | (simp; omega)) _)))⟩
theorem within500 {x y : Int} (h : withinB x y 500 = true) : near 500 (x, y) := (near_within (by omega)).1 h
theorem within1000 {x y : Int} (h : withinB x y 1000 = true) : near 1000 (x, y) := (near_within (by omega)).1 h
end Go.Proofs.YtpbgimdbhgahkaaGreat
