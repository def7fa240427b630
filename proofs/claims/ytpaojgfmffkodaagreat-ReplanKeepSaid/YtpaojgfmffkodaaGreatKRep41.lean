/- Layer 54: the reference's Replan. -/
import Derived.Test.YtpaojgfmffkodaaGreatKRep23
import Derived.Test.YtpaojgfmffkodaaGreatKRep10
namespace Go.Proofs.YtpaojgfmffkodaaGreat
set_option linter.unusedVariables false
set_option linter.unusedSimpArgs false
open Go.RowKit Go.Sort
attribute [local go_sem ↓] Go.wp_at_zero Go.wp_at_succ
set_option maxRecDepth 100000 in
set_option maxHeartbeats 16000000 in
theorem refReplan54_any (x : StR) (w : World) (hx : IsState w x) (hdr : x.dr.length = x.L.length) (hL : x.L.length < 1000) (hbl : x.bg.length < 100000) (hpl : x.pd.length < 100000) (hnd : ((x.bg ++ x.pd).map (·.job)).Nodup) :
    Calls Tryz.prog 23 #[stateV x] w fun e w' => ∃ y : ResM, e = .returned (.tuple #[resV y, .int .i64 (replanV (erSt x)).1]) ∧ y.r = (replanV (erSt x)).2 ∧ IsRes w' y ∧ SinceOf w w' := by
  obtain ⟨sx, A, c, L, gA, gc, bg, pA, pc, pd, dA, dc, dr⟩ := x
  simp only at hdr hL hbl hpl
  have hVA := fun (B' : Option Addr) (d' : Nat) (l : List SlotR) W (hW : SinceOf w W) (h1 : IsSlots W B' d' l) (h2 : l.length < 1073741824) (h3 : l.length ≤ d') => refValid52_any sx A c L B' d' l W (hx.shop.of hW) (hx.jobs.of hW) h1 (by omega) h3
  have hcs : ∀ n, chosenTo (erSt ⟨sx, A, c, L, gA, gc, bg, pA, pc, pd, dA, dc, dr⟩) (n + 1) = if (validT sx L ((chosenTo (erSt ⟨sx, A, c, L, gA, gc, bg, pA, pc, pd, dA, dc, dr⟩) n).1 ++ [pd.getD n noSlot])).2 = 0 then ((chosenTo (erSt ⟨sx, A, c, L, gA, gc, bg, pA, pc, pd, dA, dc, dr⟩) n).1 ++ [pd.getD n noSlot], (chosenTo (erSt ⟨sx, A, c, L, gA, gc, bg, pA, pc, pd, dA, dc, dr⟩) n).2 ++ [(n : Int)]) else chosenTo (erSt ⟨sx, A, c, L, gA, gc, bg, pA, pc, pd, dA, dc, dr⟩) n := fun n => by
    show (if (validT (erS sx) (erL L) _).2 = 0 then _ else _) = _
    rw [validT_er]
    rfl
  have hc0 : chosenTo (erSt ⟨sx, A, c, L, gA, gc, bg, pA, pc, pd, dA, dc, dr⟩) 0 = (bg, []) := rfl
  have hcl := chosen_len (erSt ⟨sx, A, c, L, gA, gc, bg, pA, pc, pd, dA, dc, dr⟩)
  have hbgE : (erSt ⟨sx, A, c, L, gA, gc, bg, pA, pc, pd, dA, dc, dr⟩).bg = bg := rfl
  rw [hbgE] at hcl
  have hrv : replanV (erSt ⟨sx, A, c, L, gA, gc, bg, pA, pc, pd, dA, dc, dr⟩) = keepV (erSt ⟨sx, A, c, L, gA, gc, bg, pA, pc, pd, dA, dc, dr⟩) (chosenTo (erSt ⟨sx, A, c, L, gA, gc, bg, pA, pc, pd, dA, dc, dr⟩) pd.length).2 := rfl
  rw [hrv]
  have hKE := fun (B' : Option Addr) (d' : Nat) (kept : List Int) W (hW : SinceOf w W) (h1 : IsInts W B' d' kept) (h2 : kept.length < 1000000) => refKeep54_any ⟨sx, A, c, L, gA, gc, bg, pA, pc, pd, dA, dc, dr⟩ B' d' kept W (hx.of hW) h1 h2 hdr hL (by show bg.length < 1000000; omega) (by show pd.length < 1000000; omega) hnd
  simp only [stateV, hdr] at hKE
  generalize hPd : erSt ⟨sx, A, c, L, gA, gc, bg, pA, pc, pd, dA, dc, dr⟩ = P at *
  obtain ⟨ch, hch⟩ : ∃ ch, ch = chosenTo P := ⟨_, rfl⟩
  rw [← hch] at hcs hc0 hcl ⊢
  obtain ⟨i0, hi, hz0, hz1, hz2⟩ := info_parts infoRSlot
  obtain ⟨n0, ni, nz0, nz1, nz2⟩ := info_parts infoInt
  have HI := Lib.hid (And.intro hi (And.intro hz0 (And.intro hz1 hz2)))
  have NI := Lib.hid (And.intro ni (And.intro nz0 (And.intro nz1 nz2)))
  obtain ⟨sA, sc, cals, sB, sd, R, most⟩ := sx
  have H := Lib.hid (And.intro hx (And.intro hcs (And.intro hc0 (And.intro hcl (And.intro hVA hKE)))))
  have hll := hx.jobs.len
  show Calls Tryz.prog _ #[.agg #[.slice sA cals.length sc, .slice sB R.length sd, .int .i64 most, .slice A L.length c, .slice gA bg.length gc, .slice pA pd.length pc, .slice dA dr.length dc]] w _
  rw [hdr]
  clear hnd
  clear hx hcs hc0 hcl hVA hKE hi hz0 hz1 hz2 ni nz0 nz1 nz2 hPd hch hrv hbgE hdr
  go_enter Tryz.func23, Tryz.ntmps23
  go_wp2_with (at_builtin; refine wpList_append_row rfl (.tmp 10) (.tmp 12) 29 rfl encS_len (by omega) encS_one i0 _ 32 Tryz.underlying29 HI.out.1 HI.out.2.1 HI.out.2.2.1 HI.out.2.2.2 rfl (l := []) (A := some ⟨w.heap.size + 1 + 1, 0, none⟩) (c := 0) (base := w.heap.size + 1 + 1) rfl (by have q := ownsRS_empty ((w.alloc (.cells #[.slice sA cals.length sc, .slice sB R.length sd, .int .i64 most, .slice A L.length c, .slice gA bg.length gc, .slice pA pd.length pc, .slice dA L.length dc] 52)).alloc (.cells #[.slice none 0 0, .slice none 0 0, .slice none 0 0] 65)) (w.heap.size + 1 + 1) (by simp); rw [show ((w.alloc (.cells #[.slice sA cals.length sc, .slice sB R.length sd, .int .i64 most, .slice A L.length c, .slice gA bg.length gc, .slice pA pd.length pc, .slice dA L.length dc] 52)).alloc (.cells #[.slice none 0 0, .slice none 0 0, .slice none 0 0] 65)).heap.size = w.heap.size + 1 + 1 from by simp] at q; exact q) (m := bg) (B := gA) (d := gc) rfl (H.out.1.bg.of Sx) (by unfold maxLen; simp; omega) (by simp; omega) (by simp) ?_; intro A0 c0 wz hA0 hgr0 hbl0)
  have hs0 : SinceOf ((w.alloc (.cells #[.slice sA cals.length sc, .slice sB R.length sd, .int .i64 most, .slice A L.length c, .slice gA bg.length gc, .slice pA pd.length pc, .slice dA L.length dc] 52)).alloc (.cells #[.slice none 0 0, .slice none 0 0, .slice none 0 0] 65)) wz := SinceOf.grown Sx hgr0 (by intro q hq; simp [blockOf] at hq; simp; omega)
  obtain ⟨z0, rfl⟩ := hs0
  have e0 := z0.size
  simp at e0
  rw [List.nil_append] at hA0
  have H0 := Lib.hid (And.intro (hA0.isRow encS_len) hA0.le_cap)
  clear hA0 hgr0 hbl0
  go_wp2_with fail
  go_loopg [4, 5, 6] pd.length (fun gas s4 s5 s6 wr => ∃ (k : Nat) (C : Option Addr) (c1 : Nat) (K : Option Addr) (kc : Nat), k ≤ pd.length ∧ pd.length - k ≤ gas ∧ s4 = .slice C (ch k).1.length c1 ∧ s5 = .slice K (ch k).2.length kc ∧ s6 = .int .i64 k ∧ IsSlots wr C c1 (ch k).1 ∧ Owns encN 1 (w.heap.size + 1 + 1) 3 wr K kc (ch k).2 ∧ SinceOf ((w.alloc (.cells #[.slice sA cals.length sc, .slice sB R.length sd, .int .i64 most, .slice A L.length c, .slice gA bg.length gc, .slice pA pd.length pc, .slice dA L.length dc] 52)).alloc (.cells #[.slice none 0 0, .slice none 0 0, .slice none 0 0] 65)) wr)
  case atStart => exact ⟨0, A0, c0, none, 0, by omega, by omega, by rw [H.out.2.2.1], by rw [H.out.2.2.1]; rfl, rfl, by rw [H.out.2.2.1]; exact H0.out.1, by rw [H.out.2.2.1]; exact Owns.nil _ _ _ _ _, Sx⟩
  case round =>
    obtain ⟨k, C, c1, K, kc, hk, hgas, rfl, rfl, rfl, hC, hK, ⟨z, rfl⟩⟩ := hrel
    by_cases hlt : k < pd.length
    · obtain ⟨gp, op, rfl, hrp⟩ := (H.out.1.pd.of (show SinceOf w z.wd from Sx)).at_ (by show 0 < pd.length; omega)
      have hOp := hrp.there
      have s0 := hrp.s0 k hlt
      have s1 := hrp.s1 k hlt
      have s2 := hrp.s2 k hlt
      have s3 := hrp.s3 k hlt
      have hst := H.out.2.1 k
      have hcl := H.out.2.2.2.1 k
      rw [getS_at hlt] at hst
      have hz := z.size
      simp at hz
      obtain ⟨l, hl⟩ : ∃ l, l = (ch k).1 := ⟨_, rfl⟩
      obtain ⟨kp, hkp⟩ : ∃ kp, kp = (ch k).2 := ⟨_, rfl⟩
      rw [← hl] at hC hst hcl ⊢
      rw [← hkp] at hK hst hcl ⊢
      have HLK := Lib.hid (And.intro hl hkp)
      clear hl hkp hrp
      generalize pd[k] = y at *
      obtain ⟨y0, y1, y2, y3⟩ := y
      simp only at s0 s1 s2 s3
      have VA := fun C4 d4 W => H.out.2.2.2.2.1 C4 d4 (l ++ [⟨y0, y1, y2, y3⟩]) W
      obtain ⟨⟨vi, ve⟩, hvt⟩ : ∃ vt, validT ⟨sA, sc, cals, sB, sd, R, most⟩ L (l ++ [⟨y0, y1, y2, y3⟩]) = vt := ⟨_, rfl⟩
      rw [hvt] at VA hst
      simp only [List.length_append, List.length_singleton] at VA
      have HK := Lib.hid (And.intro hC (And.intro hK (And.intro hst hvt)))
      clear hC hK hst hvt
      go_upto_region 6 with fail
      go_cut [7] (fun s7 wx => ∃ (C2 : Option Addr) (d2 : Nat), s7 = .slice C2 (l.length + 1) d2 ∧ IsSlots wx C2 d2 (l ++ [⟨y0, y1, y2, y3⟩]) ∧ (∀ b, blockOf C2 = some b → z.wd.heap.size ≤ b) ∧ l.length + 1 ≤ d2 ∧ SinceOf z.wd wx)
      case first =>
        go_region_held3 (fun w' => w'.cell? ⟨w.heap.size, 5, none⟩ = some (.slice (some ⟨gp, op, none⟩) pd.length pc) ∧ w'.cell? ⟨gp, op + k * 4, none⟩ = some (.int .i64 y0) ∧ w'.cell? ⟨gp, op + k * 4 + 1, none⟩ = some (.int .i64 y1) ∧ w'.cell? ⟨gp, op + k * 4 + 2, none⟩ = some (.int .i64 y2) ∧ w'.cell? ⟨gp, op + k * 4 + 3, none⟩ = some (.int .i64 y3)) ((simp [go_sem, *]))
          (first
            | (refine step_append_row rfl (.tmp 21) (.tmp 22) 29 rfl encS_len (by omega) encS_one i0 _ 32 Tryz.underlying29 HI.out.1 HI.out.2.1 HI.out.2.2.1 HI.out.2.2.2 rfl (l := []) (A := some ⟨z.wd.heap.size, 0, none⟩) (c := 0) (base := z.wd.heap.size) ?hs ?own (m := l) (B := C) (d := c1) rfl ?hm ?h63 ?hby ?hbase ?_
               case hs => rfl
               case own => exact owns_emptyAt z.wd.drew _ _ (by simp) (Nat.le_refl _)
               case hm => exact HK.out.1.of Sx
               case h63 => unfold maxLen; simp; omega
               case hby => simp; omega
               case hbase => first | omega | (simp; done) | (simp; omega)
               intro C2 d2 w4 hown4 hgr4 hb4
               rw [List.nil_append] at hown4
               rw [List.length_nil, Nat.zero_add]
               have hs5 : SinceOf z.wd w4 := SinceOf.grown Sx hgr4 (fun q hq => by simp [blockOf] at hq; (try simp); omega)
               have hr7 : True := trivial
               have hz5 := hs5.size
               have hz6 := hgr4.size
               (try simp at hz6)
               have ho1 : Nonempty (Old w4 w.heap.size) := oldS_since hs5 (by infer_instance)
               have ho2 : Nonempty (Old w4 gp) := oldS_since hs5 (by infer_instance)
               have hx0 : w4.cell? ⟨w.heap.size, 5, none⟩ = some (.slice (some ⟨gp, op, none⟩) pd.length pc) := by obtain ⟨yy, hy⟩ := hs5; rw [hy, Since.cell]; simp [go_sem]
               have hx1 : w4.cell? ⟨gp, op + k * 4, none⟩ = some (.int .i64 y0) := by obtain ⟨yy, hy⟩ := hs5; rw [hy, Since.cell]; simp [go_sem, *]
               have hx2 : w4.cell? ⟨gp, op + k * 4 + 1, none⟩ = some (.int .i64 y1) := by obtain ⟨yy, hy⟩ := hs5; rw [hy, Since.cell]; simp [go_sem, *]
               have hx3 : w4.cell? ⟨gp, op + k * 4 + 2, none⟩ = some (.int .i64 y2) := by obtain ⟨yy, hy⟩ := hs5; rw [hy, Since.cell]; simp [go_sem, *]
               have hx4 : w4.cell? ⟨gp, op + k * 4 + 3, none⟩ = some (.int .i64 y3) := by obtain ⟨yy, hy⟩ := hs5; rw [hy, Since.cell]; simp [go_sem, *])
            | (refine step_append_row rfl (.tmp 21) (.tmp 22) 29 rfl encS_len (by omega) encS_one i0 _ 32 Tryz.underlying29 HI.out.1 HI.out.2.1 HI.out.2.2.1 HI.out.2.2.2 rfl (l := []) (A := some ⟨z.wd.heap.size, 0, none⟩) (c := 0) (base := z.wd.heap.size) ?hs ?own (m := l) (B := C) (d := c1) rfl ?hm ?h63 ?hby ?hbase ?_
               case hs => rfl
               case own => exact (owns_emptyAt z.wd.drew _ _ (by simp) (Nat.le_refl _)).alloc _
               case hm => exact HK.out.1.of Sx
               case h63 => unfold maxLen; simp; omega
               case hby => simp; omega
               case hbase => first | omega | (simp; done) | (simp; omega)
               intro C2 d2 w4 hown4 hgr4 hb4
               rw [List.nil_append] at hown4
               rw [List.length_nil, Nat.zero_add]
               have hs5 : SinceOf z.wd w4 := SinceOf.grown Sx hgr4 (fun q hq => by simp [blockOf] at hq; (try simp); omega)
               have hr7 := (rowS_at (z.wd.drew.alloc (.cells #[] 77)) (z.wd.heap.size + 1) ⟨y0, y1, y2, y3⟩ 77 (by simp)).grownN hgr4 (fun b hb e => by simp [blockOf] at hb e; omega)
               have hz5 := hs5.size
               have hz6 := hgr4.size
               (try simp at hz6)
               have ho1 : Nonempty (Old w4 w.heap.size) := oldS_since hs5 (by infer_instance)
               have ho2 : Nonempty (Old w4 gp) := oldS_since hs5 (by infer_instance)
               have hx0 : w4.cell? ⟨w.heap.size, 5, none⟩ = some (.slice (some ⟨gp, op, none⟩) pd.length pc) := by obtain ⟨yy, hy⟩ := hs5; rw [hy, Since.cell]; simp [go_sem]
               have hx1 : w4.cell? ⟨gp, op + k * 4, none⟩ = some (.int .i64 y0) := by obtain ⟨yy, hy⟩ := hs5; rw [hy, Since.cell]; simp [go_sem, *]
               have hx2 : w4.cell? ⟨gp, op + k * 4 + 1, none⟩ = some (.int .i64 y1) := by obtain ⟨yy, hy⟩ := hs5; rw [hy, Since.cell]; simp [go_sem, *]
               have hx3 : w4.cell? ⟨gp, op + k * 4 + 2, none⟩ = some (.int .i64 y2) := by obtain ⟨yy, hy⟩ := hs5; rw [hy, Since.cell]; simp [go_sem, *]
               have hx4 : w4.cell? ⟨gp, op + k * 4 + 3, none⟩ = some (.int .i64 y3) := by obtain ⟨yy, hy⟩ := hs5; rw [hy, Since.cell]; simp [go_sem, *])
            | (refine step_append_row rfl (.tmp 21) (.tmp 22) 29 rfl encS_len (by omega) encS_one i0 _ 32 Tryz.underlying29 HI.out.1 HI.out.2.1 HI.out.2.2.1 HI.out.2.2.2 rfl (l := []) (A := some ⟨z.wd.heap.size + 1, 0, none⟩) (c := 0) (base := z.wd.heap.size) ?hs ?own (m := l) (B := C) (d := c1) rfl ?hm ?h63 ?hby ?hbase ?_
               case hs => rfl
               case own => exact owns_emptyAt (z.wd.drew.alloc (.cells #[.int .i64 y0, .int .i64 y1, .int .i64 y2, .int .i64 y3] 77)) _ _ (by simp) (by omega)
               case hm => exact HK.out.1.of Sx
               case h63 => unfold maxLen; simp; omega
               case hby => simp; omega
               case hbase => first | omega | (simp; done) | (simp; omega)
               intro C2 d2 w4 hown4 hgr4 hb4
               rw [List.nil_append] at hown4
               rw [List.length_nil, Nat.zero_add]
               have hs5 : SinceOf z.wd w4 := SinceOf.grown Sx hgr4 (fun q hq => by simp [blockOf] at hq; (try simp); omega)
               have hr7 := ((rowS_at z.wd.drew z.wd.heap.size ⟨y0, y1, y2, y3⟩ 77 (by simp)).of ((SinceOf.refl _).alloc (.cells #[] 77))).grownN hgr4 (fun b hb e => by simp [blockOf] at hb e; omega)
               have hz5 := hs5.size
               have hz6 := hgr4.size
               (try simp at hz6)
               have ho1 : Nonempty (Old w4 w.heap.size) := oldS_since hs5 (by infer_instance)
               have ho2 : Nonempty (Old w4 gp) := oldS_since hs5 (by infer_instance)
               have hx0 : w4.cell? ⟨w.heap.size, 5, none⟩ = some (.slice (some ⟨gp, op, none⟩) pd.length pc) := by obtain ⟨yy, hy⟩ := hs5; rw [hy, Since.cell]; simp [go_sem]
               have hx1 : w4.cell? ⟨gp, op + k * 4, none⟩ = some (.int .i64 y0) := by obtain ⟨yy, hy⟩ := hs5; rw [hy, Since.cell]; simp [go_sem, *]
               have hx2 : w4.cell? ⟨gp, op + k * 4 + 1, none⟩ = some (.int .i64 y1) := by obtain ⟨yy, hy⟩ := hs5; rw [hy, Since.cell]; simp [go_sem, *]
               have hx3 : w4.cell? ⟨gp, op + k * 4 + 2, none⟩ = some (.int .i64 y2) := by obtain ⟨yy, hy⟩ := hs5; rw [hy, Since.cell]; simp [go_sem, *]
               have hx4 : w4.cell? ⟨gp, op + k * 4 + 3, none⟩ = some (.int .i64 y3) := by obtain ⟨yy, hy⟩ := hs5; rw [hy, Since.cell]; simp [go_sem, *])
            | (refine step_append_row rfl (.tmp 23) (.tmp 29) 29 rfl encS_len (by omega) encS_one i0 _ 32 Tryz.underlying29 HI.out.1 HI.out.2.1 HI.out.2.2.1 HI.out.2.2.2 rfl (l := l) (A := C2) (c := d2) (base := z.wd.heap.size) ?hs ?own (m := [⟨y0, y1, y2, y3⟩]) rfl ?hm ?h63 ?hby ?hbase ?_
               case hs => first | rfl | simp
               case own => first | exact hown4 | exact hown4.alloc _
               case hm => first
                 | exact hr7
                 | exact rowS_at w4 _ ⟨y0, y1, y2, y3⟩ _ rfl
               case h63 => unfold maxLen; simp; omega
               case hby => simp; omega
               case hbase => first | omega | (simp; done) | (simp; omega)
               intro C4 d4 w8 hown8 hgr8 hb8
               have hcap8 := hown8.le_cap
               (try simp only [List.length_append, List.length_singleton] at hcap8)
               have hs8 : SinceOf z.wd w8 := SinceOf.grown (show SinceOf z.wd _ from Sx) hgr8 (fun q hq => (hown4.below q hq).1)
               have ho3 : Nonempty (Old w8 w.heap.size) := oldS_since hs8 (by infer_instance)
               have ho4 : Nonempty (Old w8 gp) := oldS_since hs8 (by infer_instance)
               have hw0 : w8.cell? ⟨w.heap.size, 5, none⟩ = some (.slice (some ⟨gp, op, none⟩) pd.length pc) := by obtain ⟨yy, hy⟩ := hs8; rw [hy, Since.cell]; simp [go_sem]
               have hw1 : w8.cell? ⟨gp, op + k * 4, none⟩ = some (.int .i64 y0) := by obtain ⟨yy, hy⟩ := hs8; rw [hy, Since.cell]; simp [go_sem, *]
               have hw2 : w8.cell? ⟨gp, op + k * 4 + 1, none⟩ = some (.int .i64 y1) := by obtain ⟨yy, hy⟩ := hs8; rw [hy, Since.cell]; simp [go_sem, *]
               have hw3 : w8.cell? ⟨gp, op + k * 4 + 2, none⟩ = some (.int .i64 y2) := by obtain ⟨yy, hy⟩ := hs8; rw [hy, Since.cell]; simp [go_sem, *]
               have hw4 : w8.cell? ⟨gp, op + k * 4 + 3, none⟩ = some (.int .i64 y3) := by obtain ⟨yy, hy⟩ := hs8; rw [hy, Since.cell]; simp [go_sem, *]))
        all_goals go_wp2_with fail
        all_goals go_meet
        all_goals exact ⟨C4, d4, rfl, hown8.isRow encS_len, fun b hb => (hown8.below b hb).1, hcap8, hs8⟩
      case rest =>
        obtain ⟨C2, d2, rfl, hC2, hb2, hcap2, ⟨z7, rfl⟩⟩ := hcut
        have hz7 := z7.size
        (try simp at hz7)
        have HC2 := Lib.hid (And.intro hC2 hb2)
        clear hC2 hb2
        go_wp2_with fail
        refine (VA C2 d2 _ Sx (HC2.out.1.of Sx) (by omega) hcap2).calls.mono ?_
        rintro e _ ⟨rfl, z8, rfl⟩
        have hz8 := z8.size
        (try simp at hz8)
        clear VA
        by_cases hve : ve = 0
        · subst hve
          have hch : (ch (k + 1)).2 = kp ++ [(k : Int)] ∧ (ch (k + 1)).1 = l ++ [⟨y0, y1, y2, y3⟩] := by rw [HK.out.2.2.1, if_pos rfl]; exact ⟨rfl, rfl⟩
          have HC := Lib.hid hch
          clear hch
          go_wp2_with (at_builtin; refine wpList_append_row rfl (.tmp 43) (.tmp 45) 57 rfl encN_len (by omega) encN_one n0 _ 8 Tryz.underlying57 NI.out.1 NI.out.2.1 NI.out.2.2.1 NI.out.2.2.2 rfl (l := kp) (A := K) (c := kc) (base := w.heap.size + 1 + 1) rfl (HK.out.2.1.of Sx) (m := [(k : Int)]) rfl (rowN_at _ _ _ _ (by first | rfl | simp)) (by unfold maxLen; simp; omega) (by simp; omega) (by simp; omega) ?_; intro E4 f4 w5 hown4 hgr4 hbl4)
          go_roundg (pd.length - (k + 1))
          case measure => omega
          case rel =>
            refine ⟨k + 1, C2, d2, E4, f4, hlt, Nat.le_refl _, by rw [HC.out.2, List.length_append]; rfl, by rw [HC.out.1, List.length_append]; rfl, by go_num, by rw [HC.out.2]; exact (HC2.out.1.of Sx).grownN hgr4 (fun b hb e => by have h1 := HC2.out.2 b hb; have h2 := (HK.out.2.1.below b e).2; omega), by rw [HC.out.1]; exact hown4, ?_⟩
            refine SinceOf.grown Sx hgr4 (fun q2 hq2 => ?_)
            have := (HK.out.2.1.below q2 hq2).1
            simp
            omega
        · have hve2 : (ve == 0) = false := by simpa using hve
          have hch : (ch (k + 1)).2 = kp ∧ (ch (k + 1)).1 = l := by rw [HK.out.2.2.1, if_neg hve]; exact ⟨HLK.out.2.symm, HLK.out.1.symm⟩
          have HC := Lib.hid hch
          clear hch hve
          go_wp2_with fail
          go_roundg (pd.length - (k + 1))
          case measure => omega
          case rel => exact ⟨k + 1, C, c1, K, kc, hlt, Nat.le_refl _, by rw [HC.out.2], by rw [HC.out.1], by go_num, by rw [HC.out.2]; exact HK.out.1.of Sx, by rw [HC.out.1]; exact HK.out.2.1.of Sx, Sx⟩
    · have hkl : k = pd.length := by omega
      have hcl := H.out.2.2.2.1 k
      have KE := H.out.2.2.2.2.2 K kc (ch k).2
      rw [hkl] at hC hK hcl KE ⊢
      obtain ⟨kp, hkp⟩ : ∃ kp, (ch pd.length).2 = kp := ⟨_, rfl⟩
      rw [hkp] at hK hcl KE ⊢
      have HKP := Lib.hid hkp
      have HK := Lib.hid (hK.isRow encN_len)
      clear hC hK hkl hkp
      go_wp2_with fail
      refine (KE _ Sx (HK.out.of Sx) (by omega)).mono ?_
      rintro e w' ⟨⟨⟨sl, mvd, lf⟩, yA, yc, ymA, ymc, ylA, ylc⟩, rfl, hy, hr, hf, ⟨z9, rfl⟩⟩
      have hz := z.size
      simp at hz
      have HY := Lib.hid (And.intro hy (And.intro hr hf))
      clear hy hr hf
      go_wp2_with fail
      go_returns
      have n1 : ∀ b, blockOf yA = some b → b ≠ w.heap.size + 1 := fun b hb => by have := HY.out.2.2.1 b hb; omega
      have n2 : ∀ b, blockOf ymA = some b → b ≠ w.heap.size + 1 := fun b hb => by have := HY.out.2.2.2.1 b hb; omega
      have n3 : ∀ b, blockOf ylA = some b → b ≠ w.heap.size + 1 := fun b hb => by have := HY.out.2.2.2.2 b hb; omega
      refine ⟨⟨⟨sl, mvd, lf⟩, yA, yc, ymA, ymc, ylA, ylc⟩, by first | rfl | rw [HKP.out], by first | exact HY.out.1 | (rw [HKP.out]; exact HY.out.1), ⟨?_, ?_, ?_, HY.out.2.1.cap⟩, ?_⟩
      · exact ((HY.out.2.1.slots.setOther _ _ _ n1).setOther _ _ _ n1).setOther _ _ _ n1
      · exact ((HY.out.2.1.moved.setOther _ _ _ n2).setOther _ _ _ n2).setOther _ _ _ n2
      · exact ((HY.out.2.1.left.setOther _ _ _ n3).setOther _ _ _ n3).setOther _ _ _ n3
      · exact SinceOf.setCell (SinceOf.setCell (SinceOf.setCell (show SinceOf w z9.wd from Sx) (show w.heap.size ≤ w.heap.size + 1 by omega) _) (show w.heap.size ≤ w.heap.size + 1 by omega) _) (show w.heap.size ≤ w.heap.size + 1 by omega) _
end Go.Proofs.YtpaojgfmffkodaaGreat
