/- Layer 54: the program's Least. -/
import Derived.Test.YtpaojgfmffkodaaGreatLRep10
import Derived.Test.YtpaojgfmffkodaaGreatLRepP12
import Derived.Test.YtpaojgfmffkodaaGreatLRep14
namespace Go.Proofs.YtpaojgfmffkodaaGreat
set_option linter.unusedVariables false
set_option linter.unusedSimpArgs false
open Go.RowKit Go.Sort
attribute [local go_sem ↓] Go.wp_at_zero Go.wp_at_succ
theorem and_one (x : Nat) : bits .and .i64 (x : Int) 1 = ((x % 2 : Nat) : Int) := by
  unfold bits
  simp only
  have h1 : (BitVec.ofInt IntKind.i64.bits (x : Int) &&& BitVec.ofInt IntKind.i64.bits 1).toNat = x % 2 := by
    show (BitVec.ofInt 64 (x : Int) &&& BitVec.ofInt 64 1).toNat = x % 2
    rw [BitVec.toNat_and, show (BitVec.ofInt 64 1).toNat = 1 from rfl, Nat.and_one_is_mod, BitVec.ofInt_natCast, BitVec.toNat_ofNat]
    omega
  rw [h1]
  have h2 : x % 2 = 0 ∨ x % 2 = 1 := by omega
  rcases h2 with h | h <;> rw [h] <;> rfl
theorem testBit_div (k i : Nat) : k.testBit i = decide (k / 2 ^ i % 2 = 1) := by rw [Nat.testBit_eq_decide_div_mod_eq]
theorem betterB_er (L : List JobR) (a b : ResR) : betterB (erL L) a b = betterB L a b := by unfold betterB costQ; rw [priceV_er, priceV_er]
theorem bitsL_succ (i k : Nat) : bitsL (i + 1) k = if k / 2 ^ i % 2 = 1 then bitsL i k ++ [(i : Int)] else bitsL i k := by
  unfold bitsL
  rw [List.range_succ, List.filter_append, List.map_append]
  by_cases h : k / 2 ^ i % 2 = 1
  · rw [if_pos h, List.filter_cons_of_pos (by rw [testBit_div]; simpa using h)]; rfl
  · rw [if_neg h, List.filter_cons_of_neg (by rw [testBit_div]; simpa using h)]; simp
theorem bitsL_len (n k : Nat) : (bitsL n k).length ≤ n := by
  unfold bitsL
  rw [List.length_map]
  have := List.length_filter_le (fun i => k.testBit i) (List.range n)
  rwa [List.length_range] at this
theorem IsRes.of {w w' : World} {y : ResM} (h : IsRes w y) (hs : SinceOf w w') : IsRes w' y := ⟨h.slots.of hs, h.moved.of hs, h.left.of hs, h.cap⟩
theorem IsRes.setOther {w : World} {y : ResM} {b o i : Nat} {u : Value} (h : IsRes w y) (hf : FreshR b y) (ho : o < b) : IsRes (w.setCell ⟨o, i, none⟩ u) y :=
  ⟨h.slots.setOther _ _ _ (fun b hb e => by have := hf.1 b hb; omega), h.moved.setOther _ _ _ (fun b hb e => by have := hf.2.1 b hb; omega), h.left.setOther _ _ _ (fun b hb e => by have := hf.2.2 b hb; omega), h.cap⟩
theorem FreshR.le {a b : Nat} {y : ResM} (h : FreshR b y) (hab : a ≤ b) : FreshR a y := ⟨fun g hg => Nat.le_trans hab (h.1 g hg), fun g hg => Nat.le_trans hab (h.2.1 g hg), fun g hg => Nat.le_trans hab (h.2.2 g hg)⟩
theorem keep_good {x : StR} {kept : List Int} (h : (keepV (erSt x) kept).1 = 0) : checkS x.s x.L = true ∧ GoodS x.s x.L (keepV (erSt x) kept).2.slots ∧ (keepV (erSt x) kept).2.slots.length ≤ x.bg.length + kept.length + x.L.length := by
  rw [keepV_er] at h ⊢
  by_cases hk : keptB x.pd.length (-1) kept = true
  · rw [if_pos hk] at h ⊢
    by_cases hv : (validT x.s x.L (x.bg ++ keptL (erSt x) kept)).2 = 0
    · rw [if_pos hv]
      obtain ⟨hc, hg⟩ := validT_zero.1 hv
      have hLl : (erSt x).L.length = x.L.length := erL_length x.L
      obtain ⟨d1, ext, d2, d3⟩ := dispAll_ok hc (restV (erSt x) (x.bg ++ keptL (erSt x) kept)) (x.bg ++ keptL (erSt x) kept) [] hg (fun j hj => by
        obtain ⟨i, rfl, h1, -⟩ := freeL_mem.1 ((sortD_perm _ _).mem_iff.1 hj)
        omega)
      refine ⟨hc, d1, ?_⟩
      show (dispAll _ _ _ _ _).1.length ≤ _
      have e1 := d3.length_eq
      have e2 : (restV (erSt x) (x.bg ++ keptL (erSt x) kept)).length ≤ x.L.length := by
        unfold restV
        rw [(sortD_perm _ _).length_eq, hLl]
        exact freeL_length_le _ _ _
      have e3 : (keptL (erSt x) kept).length = kept.length := by unfold keptL; rw [List.length_map]
      rw [List.length_append, List.length_map, List.nil_append] at e1
      rw [d2, List.length_append, List.length_append, e3]
      omega
    · rw [if_neg hv] at h
      cases h
  · rw [if_neg hk] at h
    cases h
def optR : Option ResR → Int × ResR
  | some r => (0, r)
  | none => (31, noRes)
theorem leastV_opt {x : StP} (h : ¬ 8 < x.pd.length) : leastV x = optR (leastTo x (2 ^ x.pd.length) none) := by
  unfold leastV
  rw [if_neg h]
  cases leastTo x (2 ^ x.pd.length) none <;> rfl
set_option maxRecDepth 100000 in
set_option maxHeartbeats 16000000 in
theorem least_any (x : StR) (w : World) (hx : IsState w x) (hdr : x.dr.length = x.L.length) (hL : x.L.length < 20) (hbl : x.bg.length < 100000) (hpl : x.pd.length < 100000) :
    Calls Tryz.prog 26 #[stateV x] w fun e w' => ∃ y : ResM, e = .returned (.tuple #[resV y, .int .i64 (leastV (erSt x)).1]) ∧ y.r = (leastV (erSt x)).2 ∧ IsRes w' y ∧ SinceOf w w' := by
  have hle : (erSt x).pd = x.pd := rfl
  by_cases h8 : 8 < x.pd.length
  · have hv : leastV (erSt x) = (9, noRes) := by unfold leastV; rw [if_pos (by rw [hle]; exact h8)]
    rw [hv]
    obtain ⟨⟨sA, sc, cals, sB, sd, R, most⟩, A, c, L, gA, gc, bg, pA, pc, pd, dA, dc, dr⟩ := x
    simp only at hdr hL hbl hpl h8
    clear hx hle hv
    go_enter Tryz.func26, Tryz.ntmps26
    go_wp2_with fail
    go_returns
    exact ⟨zeroM, rfl, rfl, zeroM_is _, Sx⟩
  rw [leastV_opt (x := erSt x) h8, hle]
  have KE := fun (B' : Option Addr) (d' : Nat) (kept : List Int) W (hW : SinceOf w W) (h1 : IsInts W B' d' kept) (h2 : kept.length < 1000000) => keep_any x B' d' kept W (hx.of hW) h1 h2 hdr hL (by omega) (by omega)
  have BT := fun (a b : ResM) W (hW : SinceOf w W) (ha : IsRes W a) (hb : IsRes W b) (hc : checkS x.s x.L = true) (ga : GoodS x.s x.L a.r.slots) (gb : GoodS x.s x.L b.r.slots) (la : a.r.slots.length < 1000000) (lb : b.r.slots.length < 1000000) => better_any x a b W (hx.of hW) ha hb hc (by omega) ga gb la lb
  have KG := fun kept (h : (keepV (erSt x) kept).1 = 0) => keep_good h
  obtain ⟨⟨sA, sc, cals, sB, sd, R, most⟩, A, c, L, gA, gc, bg, pA, pc, pd, dA, dc, dr⟩ := x
  simp only [stateV] at KE BT KG
  simp only at hdr hL hbl hpl h8
  rw [hdr] at KE BT
  have hst : ∀ best set, leastStep (erSt ⟨⟨sA, sc, cals, sB, sd, R, most⟩, A, c, L, gA, gc, bg, pA, pc, pd, dA, dc, dr⟩) best set = if (keepV (erSt ⟨⟨sA, sc, cals, sB, sd, R, most⟩, A, c, L, gA, gc, bg, pA, pc, pd, dA, dc, dr⟩) (bitsL pd.length set)).1 = 0 then (match best with
    | none => some (keepV (erSt ⟨⟨sA, sc, cals, sB, sd, R, most⟩, A, c, L, gA, gc, bg, pA, pc, pd, dA, dc, dr⟩) (bitsL pd.length set)).2
    | some b => if betterB L (keepV (erSt ⟨⟨sA, sc, cals, sB, sd, R, most⟩, A, c, L, gA, gc, bg, pA, pc, pd, dA, dc, dr⟩) (bitsL pd.length set)).2 b = true then some (keepV (erSt ⟨⟨sA, sc, cals, sB, sd, R, most⟩, A, c, L, gA, gc, bg, pA, pc, pd, dA, dc, dr⟩) (bitsL pd.length set)).2 else some b) else best := fun best set => by
    cases best with
    | none => rfl
    | some b =>
      unfold leastStep
      simp only
      rw [show betterB (erSt ⟨⟨sA, sc, cals, sB, sd, R, most⟩, A, c, L, gA, gc, bg, pA, pc, pd, dA, dc, dr⟩).L = betterB L from funext fun a => funext fun b => betterB_er L a b]
      rfl
  have hLT : ∀ k best, leastTo (erSt ⟨⟨sA, sc, cals, sB, sd, R, most⟩, A, c, L, gA, gc, bg, pA, pc, pd, dA, dc, dr⟩) (k + 1) best = leastTo (erSt ⟨⟨sA, sc, cals, sB, sd, R, most⟩, A, c, L, gA, gc, bg, pA, pc, pd, dA, dc, dr⟩) k (leastStep (erSt ⟨⟨sA, sc, cals, sB, sd, R, most⟩, A, c, L, gA, gc, bg, pA, pc, pd, dA, dc, dr⟩) best k) := fun k best => rfl
  have hL0 : ∀ best, leastTo (erSt ⟨⟨sA, sc, cals, sB, sd, R, most⟩, A, c, L, gA, gc, bg, pA, pc, pd, dA, dc, dr⟩) 0 best = best := fun best => rfl
  generalize erSt ⟨⟨sA, sc, cals, sB, sd, R, most⟩, A, c, L, gA, gc, bg, pA, pc, pd, dA, dc, dr⟩ = P at *
  obtain ⟨F0, hF0⟩ : ∃ F0, F0 = leastTo P (2 ^ pd.length) none := ⟨_, rfl⟩
  rw [← hF0]
  obtain ⟨N, hN⟩ : ∃ N : Nat, N = 2 ^ pd.length := ⟨_, rfl⟩
  rw [← hN] at hF0
  have hN256 : 1 ≤ N ∧ N ≤ 256 := by
    have h1 : 2 ^ pd.length ≤ 2 ^ 8 := Nat.pow_le_pow_right (by omega) (by omega)
    have h2 : 0 < 2 ^ pd.length := Nat.two_pow_pos _
    omega
  have hNI : (2 : Int) ^ pd.length = (N : Int) := by rw [hN]; simp
  obtain ⟨res, hres⟩ : ∃ r : Int × ResR, r = optR F0 := ⟨_, rfl⟩
  rw [← hres]
  obtain ⟨n0, ni, nz0, nz1, nz2⟩ := info_parts infoInt
  have NI := Lib.hid (And.intro ni (And.intro nz0 (And.intro nz1 nz2)))
  have H := Lib.hid (And.intro KE (And.intro BT (And.intro KG (And.intro hst (And.intro hLT hL0)))))
  have HR := Lib.hid (And.intro hres hF0)
  have HX := Lib.hid hx
  show Calls Tryz.prog _ #[.agg #[.slice sA cals.length sc, .slice sB R.length sd, .int .i64 most, .slice A L.length c, .slice gA bg.length gc, .slice pA pd.length pc, .slice dA dr.length dc]] w _
  rw [hdr]
  clear KE BT KG hst hLT hL0 hres hF0 hN ni nz0 nz1 nz2 hx hdr hle
  go_enter Tryz.func26, Tryz.ntmps26
  have hp64 : (pd.length : Int) ≤ 64 := by omega
  have hpl8 : pd.length ≤ 8 := by omega
  go_wp2_with fail
  go_loopg [5, 6] N (fun gas s5 s6 wr => ∃ (k : Nat) (bo : Option ResR) (y : ResM), k ≤ N ∧ k ≤ gas ∧ s6 = .int .i64 ((k : Int) - 1) ∧ ((bo = none ∧ s5 = .int .i64 31) ∨ (bo = some y.r ∧ s5 = .int .i64 0 ∧ GoodS ⟨sA, sc, cals, sB, sd, R, most⟩ L y.r.slots ∧ y.r.slots.length < 1000000)) ∧ leastTo P k bo = F0 ∧ IsRes wr y ∧ FreshR (w.heap.size + 3) y ∧ ResAt wr (w.heap.size + 1 + 1) (.slice y.A y.r.slots.length y.c) (.slice y.mA y.r.moved.length y.mc) (.slice y.lA y.r.left.length y.lc) ∧ SinceOf ((w.alloc (.cells #[.slice sA cals.length sc, .slice sB R.length sd, .int .i64 most, .slice A L.length c, .slice gA bg.length gc, .slice pA pd.length pc, .slice dA L.length dc] 42)).alloc (.cells #[.slice none 0 0, .slice none 0 0, .slice none 0 0] 61)) wr)
  case atStart =>
    refine ⟨N, none, zeroM, Nat.le_refl _, Nat.le_refl _, ?_, .inl ⟨rfl, rfl⟩, HR.out.2.symm, zeroM_is _, zeroM_fresh _, ?_, Sx⟩
    · rfl
    · unfold ResAt
      exact alloc_at _ _ _ (by simp)
  case round =>
    obtain ⟨k, bo, y, hk, hgas, rfl, hbo, hlt0, hy, hfy, hat, ⟨z, rfl⟩⟩ := hrel
    cases k with
    | zero =>
      have h0 := H.out.2.2.2.2.2 bo
      rw [h0] at hlt0
      obtain ⟨⟨sl, mv, lf⟩, yA, yc, ymA, ymc, ylA, ylc⟩ := y
      simp only at hat
      have a0 := hat.c0
      have a1 := hat.c1
      have a2 := hat.c2
      have hO := hat.old
      have HY := Lib.hid (And.intro hy (And.intro hfy (And.intro hlt0 hat)))
      have hz := z.size
      simp at hz
      clear hy hfy hlt0 h0 hat
      rcases hbo with ⟨rfl, rfl⟩ | ⟨rfl, rfl, -, -⟩
      · have e : res = (31, noRes) := by rw [HR.out.1, ← HY.out.2.2.1]; rfl
        subst e
        go_wp2_with fail
        go_returns
        exact ⟨zeroM, rfl, rfl, zeroM_is _, Sx⟩
      · have e : res = (0, ⟨sl, mv, lf⟩) := by rw [HR.out.1, ← HY.out.2.2.1]; rfl
        subst e
        go_wp2_with fail
        go_returns
        refine ⟨⟨⟨sl, mv, lf⟩, yA, yc, ymA, ymc, ylA, ylc⟩, rfl, rfl, ?_, ?_⟩
        · exact ((HY.out.1.setOther HY.out.2.1 (by omega)).setOther HY.out.2.1 (by omega)).setOther HY.out.2.1 (by omega)
        · exact SinceOf.setCell (SinceOf.setCell (SinceOf.setCell (show SinceOf w z.wd from Sx) (show w.heap.size ≤ w.heap.size + 1 by omega) _) (show w.heap.size ≤ w.heap.size + 1 by omega) _) (show w.heap.size ≤ w.heap.size + 1 by omega) _
    | succ k =>
      have hkN : k < N := by omega
      rw [H.out.2.2.2.2.1 k bo] at hlt0
      rw [show (((k + 1 : Nat) : Int) - 1) = (k : Int) from by omega]
      have hsz := z.size
      simp at hsz
      obtain ⟨⟨sl, mv, lf⟩, yA, yc, ymA, ymc, ylA, ylc⟩ := y
      simp only at hat hbo
      have hatl := hat.lt
      have HY := Lib.hid (And.intro hy (And.intro hfy (And.intro hlt0 hat)))
      clear hy hfy hlt0 hat
      have HBO := Lib.hid hbo
      clear hbo
      go_wp2_with fail
      go_loopg [7, 29] pd.length (fun gas s7 s29 wr => ∃ (i : Nat) (C : Option Addr) (c1 : Nat), i ≤ pd.length ∧ pd.length - i ≤ gas ∧ s7 = .slice C (bitsL i k).length c1 ∧ s29 = .int .i64 i ∧ Owns encN 1 z.wd.heap.size 3 wr C c1 (bitsL i k) ∧ SinceOf z.wd wr)
      case atStart => exact ⟨0, none, 0, by omega, by omega, rfl, rfl, Owns.nil _ _ _ _ _, SinceOf.refl _⟩
      case round =>
        obtain ⟨i, C, c1, hi, hig, rfl, rfl, hC, ⟨z2, rfl⟩⟩ := hrel
        have hz2 := z2.size
        by_cases hilt : i < pd.length
        · have hbs := bitsL_succ i k
          have hbl := bitsL_len i k
          have hi64 : (i : Int) ≤ 64 := by omega
          obtain ⟨bl, hbe⟩ : ∃ bl, bl = bitsL i k := ⟨_, rfl⟩
          rw [← hbe] at hC hbs hbl ⊢
          have hbit := and_one (k / 2 ^ i)
          rw [show ((k / 2 ^ i : Nat) : Int) = (k : Int) / 2 ^ i from by simp] at hbit
          by_cases ht : k / 2 ^ i % 2 = 1
          · rw [ht] at hbit
            rw [if_pos ht] at hbs
            have HC := Lib.hid (And.intro hC hbs)
            clear hC hbs ht hbe
            go_wp2_with (at_builtin; refine wpList_append_row rfl (.tmp 37) (.tmp 39) 57 rfl encN_len (by omega) encN_one n0 _ 8 Tryz.underlying57 NI.out.1 NI.out.2.1 NI.out.2.2.1 NI.out.2.2.2 rfl (l := bl) (A := C) (c := c1) (base := z.wd.heap.size) rfl (HC.out.1.of Sx) (m := [(i : Int)]) rfl (rowN_at _ _ _ _ (by first | rfl | simp)) (by unfold maxLen; simp; omega) (by simp; omega) (by first | omega | (simp; done) | (simp; omega)) ?_; intro E4 f4 w5 hown4 hgr4 hbl4)
            go_roundg (pd.length - (i + 1))
            case measure => omega
            case rel =>
              refine ⟨i + 1, E4, f4, hilt, Nat.le_refl _, by rw [HC.out.2, List.length_append]; rfl, by go_num, by rw [HC.out.2]; exact hown4, ?_⟩
              exact SinceOf.grown Sx hgr4 (fun q hq => (HC.out.1.below q hq).1)
          · rw [show k / 2 ^ i % 2 = 0 from by omega] at hbit
            rw [if_neg ht] at hbs
            have HC := Lib.hid (And.intro hC hbs)
            clear hC hbs ht hbe
            go_wp2_with fail
            go_roundg (pd.length - (i + 1))
            case measure => omega
            case rel => exact ⟨i + 1, C, c1, hilt, Nat.le_refl _, by rw [HC.out.2], by go_num, by rw [HC.out.2]; exact HC.out.1.of Sx, Sx⟩
        · have hin : i = pd.length := by omega
          rw [hin] at hC ⊢
          have hkl := bitsL_len pd.length k
          have hst := H.out.2.2.2.1 bo k
          obtain ⟨kp, hkp⟩ : ∃ kp, kp = bitsL pd.length k := ⟨_, rfl⟩
          rw [← hkp] at hC hkl hst ⊢
          have KE2 := fun W hW h1 => H.out.1 C c1 kp W hW h1 (by omega)
          have KG2 := H.out.2.2.1 kp
          obtain ⟨⟨ke, kr⟩, hke⟩ : ∃ q, q = keepV P kp := ⟨_, rfl⟩
          rw [← hke] at KE2 KG2 hst
          simp only at KE2 KG2 hst
          have HC := Lib.hid (hC.isRow encN_len)
          have HST := Lib.hid (And.intro hst (And.intro KG2 (And.intro hke hkp)))
          clear hC hin hst KG2 hke hkp
          go_wp2_with fail
          refine (KE2 _ Sx (HC.out.of Sx)).mono ?_
          rintro e _ ⟨⟨⟨sl1, mv1, lf1⟩, xA, xc, xmA, xmc, xlA, xlc⟩, rfl, hy1, hI1, hF1, ⟨z3, rfl⟩⟩
          subst hy1
          have hz3 := z3.size
          have HI1 := Lib.hid (And.intro hI1 hF1)
          clear hI1 hF1 KE2
          by_cases hk0 : ke = 0
          · subst hk0
            have hKG := HST.out.2.1 rfl
            have hHS := HST.out.1
            rw [if_pos rfl] at hHS
            have HKG := Lib.hid (And.intro hKG hHS)
            clear hKG hHS
            rcases HBO.out with ⟨rfl, rfl⟩ | ⟨rfl, rfl, hg0, hl0⟩
            · have HF := Lib.hid (show leastTo P k (some ⟨sl1, mv1, lf1⟩) = F0 by have := HY.out.2.2.1; rw [HKG.out.2] at this; exact this)
              have hat2 := HY.out.2.2.2.of (show SinceOf z.wd (z3.wd.alloc (.cells #[.slice xA sl1.length xc, .slice xmA mv1.length xmc, .slice xlA lf1.length xlc] 61)) from Sx)
              have a0 := hat2.c0
              have a1 := hat2.c1
              have a2 := hat2.c2
              have b0 := hat2.free 0
              have b1 := hat2.free 1
              have b2 := hat2.free 2
              have hO2 := hat2.old
              go_wp2_with fail
              go_roundg k
              case measure => omega
              case rel =>
                refine ⟨k, some ⟨sl1, mv1, lf1⟩, ⟨⟨sl1, mv1, lf1⟩, xA, xc, xmA, xmc, xlA, xlc⟩, by omega, Nat.le_refl _, by go_num, .inr ⟨rfl, rfl, HKG.out.1.2.1, by have := HKG.out.1.2.2; show sl1.length < 1000000; (try simp only at this); omega⟩, HF.out, ?_, ?_, ?_, ?_⟩
                · exact ((((HI1.out.1.of Sx).setOther HI1.out.2 (by first | omega | (simp; omega))).setOther HI1.out.2 (by first | omega | (simp; omega))).setOther HI1.out.2 (by first | omega | (simp; omega)))
                · exact HI1.out.2.le (by omega)
                · exact ((hat2.set0 _).set1 _).set2 _
                · exact SinceOf.setCell (SinceOf.setCell (SinceOf.setCell (show SinceOf ((w.alloc (.cells #[.slice sA cals.length sc, .slice sB R.length sd, .int .i64 most, .slice A L.length c, .slice gA bg.length gc, .slice pA pd.length pc, .slice dA L.length dc] 42)).alloc (.cells #[.slice none 0 0, .slice none 0 0, .slice none 0 0] 61)) (z3.wd.alloc (.cells #[.slice xA sl1.length xc, .slice xmA mv1.length xmc, .slice xlA lf1.length xlc] 61)) from Sx) (by first | omega | (simp; done) | (simp; omega)) _) (by first | omega | (simp; done) | (simp; omega)) _) (by first | omega | (simp; done) | (simp; omega)) _
            · have BT2 := fun W (hW : SinceOf w W) h1 h2 => H.out.2.1 ⟨⟨sl1, mv1, lf1⟩, xA, xc, xmA, xmc, xlA, xlc⟩ ⟨⟨sl, mv, lf⟩, yA, yc, ymA, ymc, ylA, ylc⟩ W hW h1 h2 HKG.out.1.1 HKG.out.1.2.1 hg0 (by have := HKG.out.1.2.2; show sl1.length < 1000000; (try simp only at this); omega) hl0
              have hss := HKG.out.2
              simp only at BT2 hss
              have hat1 := HY.out.2.2.2.of (show SinceOf z.wd z3.wd from Sx)
              have a0 := hat1.c0
              have a1 := hat1.c1
              have a2 := hat1.c2
              have hO1 := hat1.old
              obtain ⟨bv, hbv⟩ : ∃ bv, bv = betterB L ⟨sl1, mv1, lf1⟩ ⟨sl, mv, lf⟩ := ⟨_, rfl⟩
              rw [← hbv] at BT2 hss
              have HG := Lib.hid (And.intro hg0 (And.intro hl0 hbv))
              clear hbv hg0
              cases bv
              · have HF := Lib.hid (show leastTo P k (some ⟨sl, mv, lf⟩) = F0 by have := HY.out.2.2.1; rw [hss] at this; exact this)
                clear hss
                go_wp2_with (go_at_call 60; refine (BT2 _ Sx (HI1.out.1.of Sx) (HY.out.1.of Sx)).calls.mono ?_; rintro e _ ⟨rfl, z4, rfl⟩)
                go_roundg k
                case measure => omega
                case rel => refine ⟨k, some ⟨sl, mv, lf⟩, ⟨⟨sl, mv, lf⟩, yA, yc, ymA, ymc, ylA, ylc⟩, by omega, Nat.le_refl _, by go_num, .inr ⟨rfl, rfl, HG.out.1, HG.out.2.1⟩, HF.out, HY.out.1.of Sx, HY.out.2.1, HY.out.2.2.2.of Sx, Sx⟩
              · have HF := Lib.hid (show leastTo P k (some ⟨sl1, mv1, lf1⟩) = F0 by have := HY.out.2.2.1; rw [hss] at this; exact this)
                clear hss
                go_wp2_with (go_at_call 60; refine (BT2 _ Sx (HI1.out.1.of Sx) (HY.out.1.of Sx)).calls.mono ?_; rintro e _ ⟨rfl, z4, rfl⟩; have hat2 := HY.out.2.2.2.of (show SinceOf z.wd z4.wd from Sx); have e0 := hat2.c0; have e1 := hat2.c1; have e2 := hat2.c2; have b0 := hat2.free 0; have b1 := hat2.free 1; have b2 := hat2.free 2; have hO2 := hat2.old)
                go_roundg k
                case measure => omega
                case rel =>
                  refine ⟨k, some ⟨sl1, mv1, lf1⟩, ⟨⟨sl1, mv1, lf1⟩, xA, xc, xmA, xmc, xlA, xlc⟩, by omega, Nat.le_refl _, by go_num, .inr ⟨rfl, rfl, HKG.out.1.2.1, by have := HKG.out.1.2.2; show sl1.length < 1000000; (try simp only at this); omega⟩, HF.out, ?_, ?_, ?_, ?_⟩
                  · exact ((((HI1.out.1.of Sx).setOther HI1.out.2 (by first | omega | (simp; omega))).setOther HI1.out.2 (by first | omega | (simp; omega))).setOther HI1.out.2 (by first | omega | (simp; omega)))
                  · exact HI1.out.2.le (by omega)
                  · exact ((hat2.set0 _).set1 _).set2 _
                  · exact SinceOf.setCell (SinceOf.setCell (SinceOf.setCell (show SinceOf ((w.alloc (.cells #[.slice sA cals.length sc, .slice sB R.length sd, .int .i64 most, .slice A L.length c, .slice gA bg.length gc, .slice pA pd.length pc, .slice dA L.length dc] 42)).alloc (.cells #[.slice none 0 0, .slice none 0 0, .slice none 0 0] 61)) z4.wd from Sx) (by first | omega | (simp; done) | (simp; omega)) _) (by first | omega | (simp; done) | (simp; omega)) _) (by first | omega | (simp; done) | (simp; omega)) _
          · have hk1 : (ke == 0) = false := by simpa using hk0
            have hHS := HST.out.1
            rw [if_neg hk0] at hHS
            have HF := Lib.hid (show leastTo P k bo = F0 by have := HY.out.2.2.1; rw [hHS] at this; exact this)
            clear hHS hk0
            rcases HBO.out with ⟨rfl, rfl⟩ | ⟨rfl, rfl, hg0, hl0⟩
            · go_wp2_with fail
              go_roundg k
              case measure => omega
              case rel => refine ⟨k, none, ⟨⟨sl, mv, lf⟩, yA, yc, ymA, ymc, ylA, ylc⟩, by omega, Nat.le_refl _, by go_num, .inl ⟨rfl, rfl⟩, HF.out, HY.out.1.of Sx, HY.out.2.1, HY.out.2.2.2.of Sx, Sx⟩
            · have HG := Lib.hid (And.intro hg0 hl0)
              clear hg0
              go_wp2_with fail
              go_roundg k
              case measure => omega
              case rel => refine ⟨k, some ⟨sl, mv, lf⟩, ⟨⟨sl, mv, lf⟩, yA, yc, ymA, ymc, ylA, ylc⟩, by omega, Nat.le_refl _, by go_num, .inr ⟨rfl, rfl, HG.out.1, HG.out.2⟩, HF.out, HY.out.1.of Sx, HY.out.2.1, HY.out.2.2.2.of Sx, Sx⟩
end Go.Proofs.YtpaojgfmffkodaaGreat
