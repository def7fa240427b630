/- Layer 46: the comparison of Gaps; insertion sort of indices by it. -/
import Derived.Test.YtkpnffokjpgalaaGreatKStb1
import Derived.Test.YtkpnffokjpgalaaGreatKJnt13
namespace Go.Proofs.YtkpnffokjpgalaaGreat
set_option linter.unusedVariables false
set_option linter.unusedSimpArgs false
open Go.RowKit Go.Sort
attribute [local go_sem ↓] Go.wp_at_zero Go.wp_at_succ

/-- The steps of the edge with an index. -/
def keyQ (S : List SegP) (i : Int) : Int := stepsI (S.getD i.toNat noSeg)
def cmpQ (S : List SegP) (p q : Pt) : Int := cmpi (keyQ S q.1) (keyQ S p.1)
def InR (n : Nat) (x : Pt) : Prop := 0 ≤ x.1 ∧ x.1 < n
theorem ordR (n : Nat) (E : Int → Int) : OrdOn (InR n) (ltT E) := ⟨fun x y _ _ h => (ordT E).asym x y trivial trivial h, fun x y z _ _ _ h k => (ordT E).ntrans x y z trivial trivial trivial h k⟩
theorem agreeQ {S : List SegP} {x y : Pt} (h : x.1 < y.1) : ltT (keyQ S) y x = decide (cmpQ S y x < 0) := by
  rw [← ltE_T h]
  unfold ltE cmpQ cmpi
  rw [decide_eq_decide]
  split <;> (try split) <;> simp <;> omega
/-- The comparison's captured variable, and the edges, in blocks that are not the row's. -/
structure CmpQ (A : Option Addr) (cA : Nat) (S : List SegP) (w : World) (b7 g : Nat) : Prop where
  cell : w.cell? ⟨b7, 0, none⟩ = some (.slice A S.length cA)
  lt : b7 < w.heap.size
  ne : b7 ≠ g
  row : IsSegs w A cA S
  apt : ∀ b, blockOf A = some b → some g ≠ some b
theorem CmpQ.kept {A : Option Addr} {cA : Nat} {S : List SegP} {w w' : World} {b7 g : Nat} (h : CmpQ A cA S w b7 g) (hg : w.grownBy w' (some g)) : CmpQ A cA S w' b7 g :=
  ⟨by rw [World.grownBy.cell_far hg _ h.lt (by simpa using h.ne)]; exact h.cell, Nat.lt_of_lt_of_le h.lt hg.size, h.ne, h.row.kept hg h.apt, h.apt⟩
theorem CmpQ.of {A : Option Addr} {cA : Nat} {S : List SegP} {w w' : World} {b7 g : Nat} (h : CmpQ A cA S w b7 g) (hs : SinceOf w w') : CmpQ A cA S w' b7 g := by
  have hr := h.row.of hs
  obtain ⟨x, rfl⟩ := hs
  exact ⟨by rw [x.below.cell h.lt]; exact h.cell, Nat.lt_of_lt_of_le h.lt x.size, h.ne, hr, h.apt⟩
set_option maxRecDepth 100000 in
set_option maxHeartbeats 4000000 in
theorem CmpQ.calls {A : Option Addr} {cA : Nat} {S : List SegP} {w : World} {b7 g : Nat} (h : CmpQ A cA S w b7 g) (p q : Pt) (hp : InR S.length p) (hq : InR S.length q) :
    Gives Tryz.prog 36 #[.int .i64 p.1, .int .i64 q.1, .pointer (some ⟨b7, 0, none⟩)] w (.int .i64 (cmpQ S p q)) := by
  apply Gives.ret
  obtain ⟨i, hi⟩ : ∃ i : Nat, p.1 = i := ⟨p.1.toNat, by have := hp.1; omega⟩
  obtain ⟨k, hk⟩ : ∃ k : Nat, q.1 = k := ⟨q.1.toNat, by have := hq.1; omega⟩
  have hil : i < S.length := by have := hp.2; omega
  have hkl : k < S.length := by have := hq.2; omega
  have hc := h.cell
  have hob : Nonempty (Old w b7) := ⟨⟨h.lt⟩⟩
  obtain ⟨g5, off5, rfl, hr⟩ := h.row.at_ (by omega)
  have hO5 := hr.there
  have a0 := hr.e0 i hil
  have a1 := hr.e1 i hil
  have a2 := hr.e2 i hil
  have a3 := hr.e3 i hil
  have b0 := hr.e0 k hkl
  have b1 := hr.e1 k hkl
  have b2 := hr.e2 k hkl
  have b3 := hr.e3 k hkl
  have T1 := steps_any S[i]
  have T2 := steps_any S[k]
  have hcm : cmpQ S p q = cmpi (stepsI S[k]) (stepsI S[i]) := by
    unfold cmpQ keyQ
    rw [hi, hk]
    simp [List.getD_eq_getElem?_getD, hil, hkl]
  have CC := cmpCompare_any (stepsI S[k]) (stepsI S[i])
  rw [hcm, hi, hk]
  generalize stepsI S[k] = u at *
  generalize stepsI S[i] = v at *
  change ∀ w, Gives _ _ #[sg S[i].1.1 S[i].1.2 S[i].2.1 S[i].2.2] w _ at T1
  change ∀ w, Gives _ _ #[sg S[k].1.1 S[k].1.2 S[k].2.1 S[k].2.2] w _ at T2
  clear h hr hcm hp hq
  generalize S[i].1.1 = xa at *
  generalize S[i].1.2 = xb at *
  generalize S[i].2.1 = xc at *
  generalize S[i].2.2 = xd at *
  generalize S[k].1.1 = ya at *
  generalize S[k].1.2 = yb at *
  generalize S[k].2.1 = yc at *
  generalize S[k].2.2 = yd at *
  go_enter Tryz.func36, Tryz.ntmps36
  go_wp2_with fail
  refine region_later (by kernel_rfl) (by kernel_rfl) ?_
  repeat (go_big_quiet_step ((first | (with_reducible refine Gives.later (T1 _)) | (with_reducible refine Gives.later (T2 _)) | (with_reducible refine later_same (CC _)))))
  refine wpQuiet_nil ?_
  rintro _ ⟨x3, rfl⟩
  go_wp2_with fail
  go_returns
  exact ⟨rfl, by (repeat (first | (with_reducible exact LaterOf.refl _) | (with_reducible refine LaterOf.alloc ?_ _) | (with_reducible refine LaterOf.drew ?_) | (with_reducible refine LaterOf.drewN ?_ _) | (with_reducible refine LaterOf.later ?_ _) | (with_reducible refine LaterOf.setCell ?_ (by first | exact Nat.le_refl _ | (simp; done) | omega | (simp; omega)) _)))⟩
def fvQ (b7 : Nat) : Value := .func (.func 36) #[] #[.pointer (some ⟨b7, 0, none⟩)]
def SymQ (E : Int → Int) (w : World) (g off : Nat) (l : List Pt) (a b : Nat) (e : Ending) (w' : World) : Prop := e = .returned (.tuple #[]) ∧ ∃ l', Live encQ 1 w' g off l' ∧ Re l l' a b ∧ Sd (ltT E) l' a b ∧ w.grownBy w' (some g)
theorem SinceOf.grown_anyQ {w w' : World} (h : SinceOf w w') (row : Option Nat) : w.grownBy w' row := by
  obtain ⟨x, rfl⟩ := h
  exact x.grownBy row
end Go.Proofs.YtkpnffokjpgalaaGreat
/- Layer 46: insertion sort of indices. -/
namespace Go.Proofs.YtkpnffokjpgalaaGreat
set_option linter.unusedVariables false
set_option linter.unusedSimpArgs false
open Go.RowKit Go.Sort
attribute [local go_sem ↓] Go.wp_at_zero Go.wp_at_succ

set_option maxRecDepth 100000 in
set_option maxHeartbeats 8000000 in
theorem insertQ_any (A : Option Addr) (cA : Nat) (S : List SegP) (b7 g off c a b : Nat) (l : List Pt) (w : World) (hL : Live encQ 1 w g off l) (hC : CmpQ A cA S w b7 g) (hD : ∀ x ∈ l, InR S.length x) (hn : l.length ≤ 100000) (hab : a ≤ b) (hb : b ≤ l.length)
    (hX : ∀ i j, a ≤ i → i < j → j < b → (at0 l i).1 < (at0 l j).1) :
    Calls Tryz.prog 102 #[.slice (some ⟨g, off, none⟩) l.length c, .int .i64 a, .int .i64 b, fvQ b7] w (SymQ (keyQ S) w g off l a b) := by
  have H := Lib.hid (And.intro hL (And.intro hC (And.intro hD hX)))
  clear hL hC hD hX
  unfold SymQ fvQ
  have hO := ordR S.length (keyQ S)
  go_enter Tryz.func102, Tryz.ntmps102
  go_wp2_with fail
  go_loopg [8] (b + 1) (fun gas s8 wr => ∃ (i : Nat) (L : List Pt), a < i ∧ i ≤ b + 1 ∧ b + 1 - i ≤ gas ∧ s8 = .int .i64 (i : Int) ∧ Live encQ 1 wr g off L ∧ (i ≤ b → Re l L a i ∧ Sd (ltT (keyQ S)) L a i) ∧ (b < i → Re l L a b ∧ Sd (ltT (keyQ S)) L a b) ∧ w.grownBy wr (some g))
  case atStart => exact ⟨a + 1, l, by omega, by omega, by omega, by go_num, H.out.1, fun _ => ⟨Re.refl _ _ _, fun x y h1 h2 h3 => absurd h3 (by omega)⟩, fun _ => ⟨Re.refl _ _ _, fun x y h1 h2 h3 => absurd h3 (by omega)⟩, World.grownBy.refl _ _⟩
  case round =>
    obtain ⟨i, L, hai, hib, hgas, rfl, hlv, hr1, hr2, hgr⟩ := hrel
    obtain ⟨u, rfl⟩ : ∃ u, u = wr := ⟨_, rfl⟩
    by_cases hlt : i < b
    · obtain ⟨hre, hsd⟩ := hr1 (by omega)
      have hLl := hre.len
      have hDL := hre.allD H.out.2.2.1
      have hi' : at0 L i = at0 l i := hre.out i (by omega)
      -- the element that moves is greater than all ahead of it
      have hbig : ∀ t, a ≤ t → t < i → (at0 L t).1 < (at0 L i).1 := fun t t1 t2 => by
        obtain ⟨t', q1, q2, e⟩ := hre.inn t t1 t2
        rw [e, hi']
        exact H.out.2.2.2 t' i q1 q2 hlt
      have HS := Lib.hid (And.intro hre (And.intro hsd (And.intro hDL (And.intro hbig (And.intro hgr (H.out.2.1.kept hgr))))))
      have HV := Lib.hid hlv
      clear hr1 hr2 hre hsd hDL hbig hgr hi' hlv
      go_wp2_with fail
      go_loopg [9] i (fun gas s9 wr => ∃ j : Nat, a ≤ j ∧ j ≤ i ∧ j ≤ gas ∧ s9 = .int .i64 (j : Int) ∧ Live encQ 1 wr g off (dnF L i (i - j)) ∧ (∀ t, j ≤ t → t < i → ltT (keyQ S) (at0 L i) (at0 L t) = true) ∧ u.grownBy wr (some g))
      case atStart => exact ⟨i, by omega, Nat.le_refl _, Nat.le_refl _, rfl, by rw [Nat.sub_self]; exact HV.out, fun t h1 h2 => absurd h1 (by omega), World.grownBy.refl _ _⟩
      case round =>
        clear HV
        obtain ⟨j, haj, hji, hgas2, rfl, hlv, hhi, hgr⟩ := hrel
        obtain ⟨v, rfl⟩ : ∃ v, v = wr := ⟨_, rfl⟩
        have fin : ∀ hlo : (∀ t, a ≤ t → t < j → ltT (keyQ S) (at0 L i) (at0 L t) = false), Re l (dnF L i (i - j)) a (i + 1) ∧ Sd (ltT (keyQ S)) (dnF L i (i - j)) a (i + 1) := fun hlo =>
          ⟨(HS.out.1.mono (Nat.le_refl _) (by omega)).trans (dnF_re (by omega) (by omega) (by omega) (by omega)), sd_dn hO HS.out.2.2.1 (by omega) HS.out.2.1 haj hji hlo hhi⟩
        have done : ∀ wz, Live encQ 1 wz g off (dnF L i (i - j)) → v.grownBy wz (some g) → (Re l (dnF L i (i - j)) a (i + 1) ∧ Sd (ltT (keyQ S)) (dnF L i (i - j)) a (i + 1)) → (i + 1 ≤ b → Re l (dnF L i (i - j)) a (i + 1) ∧ Sd (ltT (keyQ S)) (dnF L i (i - j)) a (i + 1)) ∧ (b < i + 1 → Re l (dnF L i (i - j)) a b ∧ Sd (ltT (keyQ S)) (dnF L i (i - j)) a b) := fun wz _ _ h => ⟨fun _ => h, fun q => absurd q (by omega)⟩
        by_cases hj0 : j = a
        · have hf := fin (fun t t1 t2 => absurd t1 (by omega))
          have HF := Lib.hid (And.intro hf (And.intro hlv hgr))
          have g1 : decide (a < j) = false := decide_eq_false (by omega)
          clear fin done hf hlv hgr hhi hj0
          go_upto_region 4 with fail
          go_cut [34] from 18 to 34 (fun s34 wx => s34 = .bool false ∧ LaterOf v wx)
          case first =>
            refine region_later (by kernel_rfl) (by kernel_rfl) ?_
            repeat (go_big_quiet_step (fail))
            refine wpQuiet_nil ?_
            rintro _ ⟨v1, rfl⟩
            go_wp2_with fail
            go_meet
            exact ⟨rfl, by (repeat (first | (with_reducible exact LaterOf.refl _) | (with_reducible refine LaterOf.alloc ?_ _) | (with_reducible refine LaterOf.drew ?_) | (with_reducible refine LaterOf.drewN ?_ _) | (with_reducible refine LaterOf.later ?_ _) | (with_reducible refine LaterOf.setCell ?_ (by first | exact Nat.le_refl _ | (simp; done) | omega | (simp; omega)) _)))⟩
          case rest =>
            obtain ⟨rfl, ⟨v1, rfl⟩⟩ := hcut
            go_wp2_with fail
            go_roundg (b + 1 - (i + 1))
            case measure => omega
            case rel => exact ⟨i + 1, dnF L i (i - j), by omega, by omega, Nat.le_refl _, by go_num, HF.out.2.1.of (by (repeat (first | (with_reducible exact SinceOf.refl _) | (with_reducible assumption) | (with_reducible refine SinceOf.alloc ?_ _) | (with_reducible refine SinceOf.drew ?_) | (with_reducible refine SinceOf.drewN ?_ _) | (with_reducible refine SinceOf.later ?_ _) | (with_reducible refine SinceOf.further ?_ _) | (with_reducible refine SinceOf.setCell ?_ (by first | exact Nat.le_refl _ | (simp; done) | omega | (simp; omega)) _)))), fun _ => HF.out.1, fun q => absurd q (by omega), (HS.out.2.2.2.2.1.trans HF.out.2.2).trans (v1.grownBy _)⟩
        · have g1 : decide (a < j) = true := decide_eq_true (by omega)
          obtain ⟨k, hk⟩ : ∃ k, k = j - 1 := ⟨_, rfl⟩
          have ek : (j : Int) - 1 = (k : Int) := by omega
          have wk : IntKind.i64.wrap (k : Int) = (k : Int) := IntWalk.i64_in _ (by omega)
          have hat := fun t => dnF_at (l := L) (b := i) (by omega) (n := i - j) (by omega) t
          have hxj : at0 (dnF L i (i - j)) j = at0 L i := by rw [hat, if_neg (by omega), if_pos (by omega)]
          have hxk : at0 (dnF L i (i - j)) k = at0 L k := by rw [hat, if_neg (by omega), if_neg (by omega)]
          have hdl : (dnF L i (i - j)).length = l.length := by rw [dnF_len]; exact HS.out.1.len
          have hLl2 := HS.out.1.len
          have C := fun W (hW : SinceOf v W) => ((HS.out.2.2.2.2.2.kept hgr).of hW).calls (at0 L i) (at0 L k) (at0_D HS.out.2.2.1 (by omega)) (at0_D HS.out.2.2.1 (by omega))
          have K : ltT (keyQ S) (at0 L i) (at0 L k) = decide (cmpQ S (at0 L i) (at0 L k) < 0) := agreeQ (HS.out.2.2.2.1 k (by omega) (by omega))
          have hlo : ltT (keyQ S) (at0 L i) (at0 L k) = false → ∀ t, a ≤ t → t < j → ltT (keyQ S) (at0 L i) (at0 L t) = false := fun e t t1 t2 => by
            rcases Nat.lt_or_ge t k with q | q
            · exact hO.ntrans _ _ _ (at0_D HS.out.2.2.1 (by omega)) (at0_D HS.out.2.2.1 (by omega)) (at0_D HS.out.2.2.1 (by omega)) (HS.out.2.1 t k t1 q (by omega)) e
            · obtain rfl : t = k := by omega
              exact e
          have hmv : ltT (keyQ S) (at0 L i) (at0 L k) = true → ∀ t, k ≤ t → t < i → ltT (keyQ S) (at0 L i) (at0 L t) = true := fun e t t1 t2 => by
            rcases Nat.lt_or_eq_of_le t1 with q | rfl
            · exact hhi t (by omega) t2
            · exact e
          have hsw : dnF L i (i - k) = swp2 (dnF L i (i - j)) j k := by
            rw [show i - k = (i - j) + 1 by omega, dnF, show i - (i - j) = j by omega, hk]
          obtain ⟨M, hM⟩ : ∃ M, M = dnF L i (i - j) := ⟨_, rfl⟩
          rw [← hM] at hlv hxj hxk hdl hsw fin
          have x0 := hlv.row.q0 j (by omega)
          have y0 := hlv.row.q0 k (by omega)
          rw [hxj] at x0
          rw [hxk] at y0
          have hOl := hlv.row.there
          obtain ⟨bv, hbv⟩ : ∃ bv, bv = decide (cmpQ S (at0 L i) (at0 L k) < 0) := ⟨_, rfl⟩
          rw [K, ← hbv] at hlo hmv
          obtain ⟨vv0, hvv⟩ : ∃ v, v = cmpQ S (at0 L i) (at0 L k) := ⟨_, rfl⟩
          rw [← hvv] at C hbv
          have gv : decide (vv0 < 0) = bv := hbv.symm
          obtain ⟨⟨px, py⟩, hp⟩ : ∃ p, p = at0 L i := ⟨_, rfl⟩
          obtain ⟨⟨qx, qy⟩, hq⟩ : ∃ q, q = at0 L k := ⟨_, rfl⟩
          rw [← hp, ← hq] at C
          rw [← hp] at x0 hxj
          rw [← hq] at y0 hxk
          simp only at x0 y0 C
          have hjl : j < l.length := by omega
          have hkl : k < l.length := by omega
          have HQ := Lib.hid (And.intro hlv (And.intro hgr (And.intro hlo (And.intro hmv (And.intro hsw (And.intro hxj (And.intro hxk (And.intro hM fin))))))))
          have hk1 : k + 1 ≤ j := by omega
          have hk2 : j ≤ k + 1 := by omega
          clear hlv hgr hlo hmv hsw hxj hxk hM fin hhi done hat K hp hq hbv hvv hk
          go_upto_region 4 with fail
          go_cut [34] from 18 to 34 (fun s34 wx => s34 = .bool bv ∧ LaterOf v wx)
          case first =>
            refine region_later (by kernel_rfl) (by kernel_rfl) ?_
            repeat (go_big_quiet_step (((with_reducible refine Gives.later (C _ (by (repeat (first | (with_reducible exact SinceOf.refl _) | (with_reducible assumption) | (with_reducible refine SinceOf.alloc ?_ _) | (with_reducible refine SinceOf.drew ?_) | (with_reducible refine SinceOf.drewN ?_ _) | (with_reducible refine SinceOf.later ?_ _) | (with_reducible refine SinceOf.further ?_ _) | (with_reducible refine SinceOf.setCell ?_ (by first | exact Nat.le_refl _ | (simp; done) | omega | (simp; omega)) _)))))))))
            refine wpQuiet_nil ?_
            rintro _ ⟨v1, rfl⟩
            go_wp2_with fail
            go_meet
            exact ⟨by first | rfl | simp [gv], by (repeat (first | (with_reducible exact LaterOf.refl _) | (with_reducible refine LaterOf.alloc ?_ _) | (with_reducible refine LaterOf.drew ?_) | (with_reducible refine LaterOf.drewN ?_ _) | (with_reducible refine LaterOf.later ?_ _) | (with_reducible refine LaterOf.setCell ?_ (by first | exact Nat.le_refl _ | (simp; done) | omega | (simp; omega)) _)))⟩
          case rest =>
            obtain ⟨rfl, ⟨v1, rfl⟩⟩ := hcut
            clear C x0 y0 g1
            cases bv
            · have HF := Lib.hid (HQ.out.2.2.2.2.2.2.2.2 (HQ.out.2.2.1 (by first | rfl | trivial)))
              go_wp2_with fail
              go_roundg (b + 1 - (i + 1))
              case measure => omega
              case rel => exact ⟨i + 1, M, by omega, by omega, Nat.le_refl _, by go_num, HQ.out.1.of (by (repeat (first | (with_reducible exact SinceOf.refl _) | (with_reducible assumption) | (with_reducible refine SinceOf.alloc ?_ _) | (with_reducible refine SinceOf.drew ?_) | (with_reducible refine SinceOf.drewN ?_ _) | (with_reducible refine SinceOf.later ?_ _) | (with_reducible refine SinceOf.further ?_ _) | (with_reducible refine SinceOf.setCell ?_ (by first | exact Nat.le_refl _ | (simp; done) | omega | (simp; omega)) _)))), fun _ => HF.out, fun q => absurd q (by omega), (HS.out.2.2.2.2.1.trans HQ.out.2.1).trans (v1.grownBy _)⟩
            · have hlv := HQ.out.1.of (w' := v1.wd) (by (repeat (first | (with_reducible exact SinceOf.refl _) | (with_reducible assumption) | (with_reducible refine SinceOf.alloc ?_ _) | (with_reducible refine SinceOf.drew ?_) | (with_reducible refine SinceOf.drewN ?_ _) | (with_reducible refine SinceOf.later ?_ _) | (with_reducible refine SinceOf.further ?_ _) | (with_reducible refine SinceOf.setCell ?_ (by first | exact Nat.le_refl _ | (simp; done) | omega | (simp; omega)) _))))
              have hll := HQ.out.1.row
              have x0 := hlv.row.q0 j (by have := hlv.row; omega)
              have y0 := hlv.row.q0 k (by omega)
              rw [HQ.out.2.2.2.2.2.1] at x0
              rw [HQ.out.2.2.2.2.2.2.1] at y0
              simp only at x0 y0
              have fx0 := hlv.free j (by omega)
              have fy0 := hlv.free k (by omega)
              have hsw2 := hlv.swapQ (x := j) (y := k) (by omega) (by omega) HQ.out.2.2.2.2.2.1 HQ.out.2.2.2.2.2.2.1
              rw [← HQ.out.2.2.2.2.1] at hsw2
              have hOl := hlv.row.there
              have HZ := Lib.hid hsw2
              have hjk : ¬ j = k := by omega
              have hkj : ¬ k = j := by omega
              clear hlv hll hsw2
              go_upto_region 6 with fail
              go_big_region
              all_goals go_wp2_with fail
              all_goals go_roundg (j - 1)
              case measure => omega
              case rel => exact ⟨k, by omega, by omega, by omega, (by first | rfl | go_num), HZ.out.drewQ, HQ.out.2.2.2.1 (by first | rfl | trivial), ((HQ.out.2.1.trans (v1.grownBy _)).trans (swapQ_grown _ _ _ _ _ _)).trans (grownBy_drewQ _ _)⟩
    · have hf : Re l L a b ∧ Sd (ltT (keyQ S)) L a b := by
        by_cases q : i = b
        · subst q; exact hr1 (Nat.le_refl _)
        · exact hr2 (by omega)
      have HF := Lib.hid (And.intro hf (And.intro hlv hgr))
      clear hf hr1 hr2 hlv hgr
      go_wp2_with fail
      go_end0
      exact ⟨rfl, L, HF.out.2.1, HF.out.1.1, HF.out.1.2, HF.out.2.2⟩
end Go.Proofs.YtkpnffokjpgalaaGreat
/- Layer 46: symMerge of the standard library's stable sort, at rows of indices: one element on a side. -/
namespace Go.Proofs.YtkpnffokjpgalaaGreat
set_option linter.unusedVariables false
set_option linter.unusedSimpArgs false
open Go.RowKit Go.Sort
attribute [local go_sem ↓] Go.wp_at_zero Go.wp_at_succ

set_option maxRecDepth 100000 in
set_option maxHeartbeats 8000000 in
theorem symOne_any (A : Option Addr) (cA : Nat) (S : List SegP) (b7 g off c a b : Nat) (l : List Pt) (w : World) (hL : Live encQ 1 w g off l) (hC : CmpQ A cA S w b7 g) (hD : ∀ x ∈ l, InR S.length x) (hn : l.length ≤ 100000) (h2 : a + 1 < b) (h3 : b ≤ l.length) (hs : Sd (ltT (keyQ S)) l (a + 1) b) (hX : SepIn l a (a + 1) b) :
    Calls Tryz.prog 103 #[.slice (some ⟨g, off, none⟩) l.length c, .int .i64 a, .int .i64 ((a + 1 : Nat) : Int), .int .i64 b, .func (.func 36) #[] #[.pointer (some ⟨b7, 0, none⟩)]] w fun e w' => e = .returned (.tuple #[]) ∧ ∃ l', Live encQ 1 w' g off l' ∧ Re l l' a b ∧ Sd (ltT (keyQ S)) l' a b ∧ w.grownBy w' (some g) := by
  have H := Lib.hid (And.intro hL (And.intro hC (And.intro (ordR S.length (keyQ S)) (And.intro hD hs))))
  have HX := Lib.hid hX
  clear hL hC hD hs hX
  obtain ⟨m, hm⟩ : ∃ m, m = a + 1 := ⟨_, rfl⟩
  rw [← hm]
  have e1 : (m : Int) - (a : Int) = 1 := by omega
  have HM := Lib.hid hm
  have ham : a < m := by omega
  have hmb : m < b := by omega
  clear hm
  go_enter Tryz.func103, Tryz.ntmps103
  go_wp2_with fail
  go_loopg [10, 11] b (fun gas s10 s11 wr => ∃ i j : Nat, m ≤ i ∧ i ≤ j ∧ j ≤ b ∧ j - i ≤ gas ∧ s10 = .int .i64 i ∧ s11 = .int .i64 j ∧ SinceOf w wr ∧ (∀ t, m ≤ t → t < i → ltT (keyQ S) (at0 l t) (at0 l a) = true) ∧ (∀ t, j ≤ t → t < b → ltT (keyQ S) (at0 l t) (at0 l a) = false))
  case atStart => exact ⟨m, b, Nat.le_refl _, by omega, Nat.le_refl _, by omega, rfl, rfl, by (repeat (first | (with_reducible exact SinceOf.refl _) | (with_reducible assumption) | (with_reducible refine SinceOf.alloc ?_ _) | (with_reducible refine SinceOf.drew ?_) | (with_reducible refine SinceOf.drewN ?_ _) | (with_reducible refine SinceOf.later ?_ _) | (with_reducible refine SinceOf.further ?_ _) | (with_reducible refine SinceOf.setCell ?_ (by first | exact Nat.le_refl _ | (simp; done) | omega | (simp; omega)) _))), fun t h1 h2 => absurd h1 (by omega), fun t h1 h2 => absurd h1 (by omega)⟩
  case round =>
    obtain ⟨i, j, hmi, hij, hjb, hgas, rfl, rfl, ⟨z, rfl⟩, hlo, hhi⟩ := hrel
    by_cases hlt : i < j
    · obtain ⟨h, hh⟩ : ∃ h, h = (i + j) / 2 := ⟨_, rfl⟩
      have q1 : i ≤ h := by omega
      have q2 : h < j := by omega
      have e2 : ((i : Int) + (j : Int)) / 2 = (h : Int) := by omega
      have hlv := H.out.1.of (w' := z.wd) (by (repeat (first | (with_reducible exact SinceOf.refl _) | (with_reducible assumption) | (with_reducible refine SinceOf.alloc ?_ _) | (with_reducible refine SinceOf.drew ?_) | (with_reducible refine SinceOf.drewN ?_ _) | (with_reducible refine SinceOf.later ?_ _) | (with_reducible refine SinceOf.further ?_ _) | (with_reducible refine SinceOf.setCell ?_ (by first | exact Nat.le_refl _ | (simp; done) | omega | (simp; omega)) _))))
      have hO := hlv.row.there
      have x0 := hlv.row.q0 h (by omega)
      have y0 := hlv.row.q0 a (by omega)
      have hhl : h < l.length := by omega
      have hal : a < l.length := by omega
      have C := fun W (hW : SinceOf z.wd W) => (H.out.2.1.of (SinceOf.trans ⟨z, rfl⟩ hW)).calls (at0 l h) (at0 l a) (at0_D H.out.2.2.2.1 hhl) (at0_D H.out.2.2.2.1 hal)
      have K : ltT (keyQ S) (at0 l h) (at0 l a) = decide (cmpQ S (at0 l h) (at0 l a) < 0) := agreeQ (HX.out a h (Nat.le_refl _) (by omega) (by have := HM.out; omega) (by omega))
      have mono1 : ltT (keyQ S) (at0 l h) (at0 l a) = true → ∀ t, m ≤ t → t < h + 1 → ltT (keyQ S) (at0 l t) (at0 l a) = true := fun e t t1 t2 => by
        rcases Nat.lt_or_ge t h with c | c
        · exact H.out.2.2.1.trans' (at0_D H.out.2.2.2.1 (by omega)) (at0_D H.out.2.2.2.1 (by omega)) (at0_D H.out.2.2.2.1 (by omega)) (H.out.2.2.2.2 t h (by have := HM.out; omega) c (by omega)) e
        · obtain rfl : t = h := by omega
          exact e
      have mono2 : ltT (keyQ S) (at0 l h) (at0 l a) = false → ∀ t, h ≤ t → t < b → ltT (keyQ S) (at0 l t) (at0 l a) = false := fun e t t1 t2 => by
        rcases Nat.lt_or_eq_of_le t1 with c | rfl
        · exact H.out.2.2.1.ntrans _ _ _ (at0_D H.out.2.2.2.1 (by omega)) (at0_D H.out.2.2.2.1 (by omega)) (at0_D H.out.2.2.2.1 (by omega)) e (H.out.2.2.2.2 h t (by have := HM.out; omega) c t2)
        · exact e
      rw [K] at mono1 mono2
      have HL := Lib.hid (And.intro hlo (And.intro hhi (And.intro mono1 mono2)))
      clear hlo hhi mono1 mono2 K hlv hh
      obtain ⟨⟨px, py⟩, hp⟩ : ∃ p, p = at0 l h := ⟨_, rfl⟩
      obtain ⟨⟨qx, qy⟩, hq⟩ : ∃ q, q = at0 l a := ⟨_, rfl⟩
      obtain ⟨v, hv⟩ : ∃ v, v = cmpQ S (at0 l h) (at0 l a) := ⟨_, rfl⟩
      rw [← hv] at C HL
      rw [← hp, ← hq] at C
      rw [← hp] at x0
      rw [← hq] at y0
      simp only at x0 y0 C
      clear hp hq hv
      obtain ⟨bv, hbv⟩ : ∃ bv, bv = decide (v < 0) := ⟨_, rfl⟩
      have gv : decide (v < 0) = bv := hbv.symm
      rw [gv] at HL
      clear hbv
      go_upto_region 5 with fail
      go_cut [50] (fun s50 wx => s50 = .bool bv ∧ SinceOf z.wd wx)
      case first =>
        go_region_held3 (fun w' => w'.cell? ⟨g, off + h, none⟩ = some (.int .i64 px) ∧ w'.cell? ⟨g, off + a, none⟩ = some (.int .i64 qx)) ((simp [go_sem, *]))
          ((go_at_call 36; (with_reducible refine (C _ (by (repeat (first | (with_reducible exact SinceOf.refl _) | (with_reducible assumption) | (with_reducible refine SinceOf.alloc ?_ _) | (with_reducible refine SinceOf.drew ?_) | (with_reducible refine SinceOf.drewN ?_ _) | (with_reducible refine SinceOf.later ?_ _) | (with_reducible refine SinceOf.further ?_ _) | (with_reducible refine SinceOf.setCell ?_ (by first | exact Nat.le_refl _ | (simp; done) | omega | (simp; omega)) _))))).calls.mono ?_); rintro e _ ⟨rfl, y1, rfl⟩))
        all_goals
          go_wp2_with fail
          go_meet
          exact ⟨by simp [gv], by (repeat (first | (with_reducible exact SinceOf.refl _) | (with_reducible assumption) | (with_reducible refine SinceOf.alloc ?_ _) | (with_reducible refine SinceOf.drew ?_) | (with_reducible refine SinceOf.drewN ?_ _) | (with_reducible refine SinceOf.later ?_ _) | (with_reducible refine SinceOf.further ?_ _) | (with_reducible refine SinceOf.setCell ?_ (by first | exact Nat.le_refl _ | (simp; done) | omega | (simp; omega)) _)))⟩
      case rest =>
        obtain ⟨rfl, ⟨z2, rfl⟩⟩ := hcut
        clear C x0 y0
        cases bv
        · go_wp2_with fail
          go_roundg (h - i)
          case measure => omega
          case rel => exact ⟨i, h, hmi, q1, by omega, Nat.le_refl _, rfl, rfl, by (repeat (first | (with_reducible exact SinceOf.refl _) | (with_reducible assumption) | (with_reducible refine SinceOf.alloc ?_ _) | (with_reducible refine SinceOf.drew ?_) | (with_reducible refine SinceOf.drewN ?_ _) | (with_reducible refine SinceOf.later ?_ _) | (with_reducible refine SinceOf.further ?_ _) | (with_reducible refine SinceOf.setCell ?_ (by first | exact Nat.le_refl _ | (simp; done) | omega | (simp; omega)) _))), HL.out.1, HL.out.2.2.2 (by first | rfl | trivial)⟩
        · go_wp2_with fail
          go_roundg (j - (h + 1))
          case measure => omega
          case rel => exact ⟨h + 1, j, by omega, by omega, hjb, Nat.le_refl _, by go_num, rfl, by (repeat (first | (with_reducible exact SinceOf.refl _) | (with_reducible assumption) | (with_reducible refine SinceOf.alloc ?_ _) | (with_reducible refine SinceOf.drew ?_) | (with_reducible refine SinceOf.drewN ?_ _) | (with_reducible refine SinceOf.later ?_ _) | (with_reducible refine SinceOf.further ?_ _) | (with_reducible refine SinceOf.setCell ?_ (by first | exact Nat.le_refl _ | (simp; done) | omega | (simp; omega)) _))), HL.out.2.2.1 (by first | rfl | trivial), HL.out.2.1⟩
    · obtain rfl : i = j := by omega
      have HL := Lib.hid (And.intro hlo hhi)
      clear hlo hhi
      obtain ⟨k1, hk1⟩ : ∃ k1, k1 = i - 1 := ⟨_, rfl⟩
      have e3 : (i : Int) - 1 = (k1 : Int) := by omega
      have hak : a ≤ k1 := by omega
      have hkb : k1 + 1 = i := by omega
      clear hk1
      go_wp2_with fail
      go_loopg [13] (k1 - a) (fun gas s13 wr => ∃ k : Nat, a ≤ k ∧ k ≤ k1 ∧ k1 - k ≤ gas ∧ s13 = .int .i64 k ∧ Live encQ 1 wr g off (upF l a (k - a)) ∧ z.wd.grownBy wr (some g))
      case atStart => exact ⟨a, Nat.le_refl _, hak, Nat.le_refl _, rfl, (by rw [Nat.sub_self]; exact H.out.1.of (by (repeat (first | (with_reducible exact SinceOf.refl _) | (with_reducible assumption) | (with_reducible refine SinceOf.alloc ?_ _) | (with_reducible refine SinceOf.drew ?_) | (with_reducible refine SinceOf.drewN ?_ _) | (with_reducible refine SinceOf.later ?_ _) | (with_reducible refine SinceOf.further ?_ _) | (with_reducible refine SinceOf.setCell ?_ (by first | exact Nat.le_refl _ | (simp; done) | omega | (simp; omega)) _))))), World.grownBy.refl _ _⟩
      case round =>
        obtain ⟨x, hax, hxk, hgas, rfl, hlv, hgr⟩ := hrel
        obtain ⟨u, rfl⟩ : ∃ u, u = wr := ⟨_, rfl⟩
        by_cases hlt2 : x < k1
        · obtain ⟨L, hLd⟩ : ∃ L, L = upF l a (x - a) := ⟨_, rfl⟩
          have hll : L.length = l.length := by rw [hLd]; exact upF_len l a _
          have hsw : upF l a (x + 1 - a) = swp2 L x (x + 1) := by
            rw [show x + 1 - a = (x - a) + 1 by omega, upF, hLd, show a + (x - a) = x by omega]
          rw [← hLd] at hlv
          have hxl : x < L.length := by omega
          have hyl : x + 1 < L.length := by omega
          obtain ⟨y, hy⟩ : ∃ y, y = x + 1 := ⟨_, rfl⟩
          rw [← hy] at hyl hsw
          have ey : (x : Int) + 1 = (y : Int) := by omega
          have wy : IntKind.i64.wrap (y : Int) = (y : Int) := IntWalk.i64_in _ (by omega)
          have x0 := hlv.row.q0 x hxl
          have y0 := hlv.row.q0 y hyl
          have fx0 := hlv.free x (by omega)
          have fy0 := hlv.free y (by omega)
          have hO := hlv.row.there
          have hxl' : x < l.length := by omega
          have hyl' : y < l.length := by omega
          have hxy : x < y := by omega
          obtain ⟨⟨px, py⟩, hp⟩ : ∃ p, p = at0 L x := ⟨_, rfl⟩
          obtain ⟨⟨qx, qy⟩, hq⟩ : ∃ q, q = at0 L y := ⟨_, rfl⟩
          rw [← hp] at x0
          rw [← hq] at y0
          simp only at x0 y0
          have HS := Lib.hid (And.intro (hlv.swapQ hxl hyl hp.symm hq.symm) (And.intro hsw hgr))
          clear hlv hsw hgr hp hq hLd e1 e3 hy
          go_upto_region 11 with fail
          go_big_region
          all_goals go_wp2_with fail
          all_goals go_roundg (k1 - (x + 1))
          case measure => omega
          case rel => exact ⟨y, by omega, by omega, by omega, (by first | rfl | go_num), by rw [HS.out.2.1]; exact HS.out.1.drewQ, (HS.out.2.2.trans (swapQ_grown _ _ _ _ _ _)).trans (grownBy_drewQ _ _)⟩
        · obtain rfl : x = k1 := by omega
          have HR := Lib.hid (And.intro hlv hgr)
          clear hlv hgr
          go_wp2_with fail
          go_returns
          refine ⟨rfl, _, HR.out.1, ?_, ?_, (SinceOf.grown_anyQ ⟨z, rfl⟩ _).trans HR.out.2⟩
          · exact upF_re (Nat.le_refl _) (by omega) h3
          · have := sd_up H.out.2.2.1 H.out.2.2.2.1 h3 (by omega) H.out.2.2.2.2 (i := i) (by omega) hjb (fun t t1 t2 => HL.out.1 t (by have := HM.out; omega) t2) HL.out.2
            rw [show i - 1 - a = x - a by omega] at this
            exact this
set_option maxRecDepth 100000 in
set_option maxHeartbeats 8000000 in
theorem symLast_any (A : Option Addr) (cA : Nat) (S : List SegP) (b7 g off c a m : Nat) (l : List Pt) (w : World) (hL : Live encQ 1 w g off l) (hC : CmpQ A cA S w b7 g) (hD : ∀ x ∈ l, InR S.length x) (hn : l.length ≤ 100000) (h2 : a + 1 < m) (h3 : m + 1 ≤ l.length) (hs : Sd (ltT (keyQ S)) l a m) (hX : SepIn l a m (m + 1)) :
    Calls Tryz.prog 103 #[.slice (some ⟨g, off, none⟩) l.length c, .int .i64 a, .int .i64 m, .int .i64 ((m + 1 : Nat) : Int), .func (.func 36) #[] #[.pointer (some ⟨b7, 0, none⟩)]] w fun e w' => e = .returned (.tuple #[]) ∧ ∃ l', Live encQ 1 w' g off l' ∧ Re l l' a (m + 1) ∧ Sd (ltT (keyQ S)) l' a (m + 1) ∧ w.grownBy w' (some g) := by
  have H := Lib.hid (And.intro hL (And.intro hC (And.intro (ordR S.length (keyQ S)) (And.intro hD hs))))
  have HX := Lib.hid hX
  clear hL hC hD hs hX
  obtain ⟨b, hb⟩ : ∃ b, b = m + 1 := ⟨_, rfl⟩
  rw [← hb]
  have e1 : (b : Int) - (m : Int) = 1 := by omega
  obtain ⟨d, hd⟩ : ∃ d, d = m - a := ⟨_, rfl⟩
  have e0 : (m : Int) - (a : Int) = (d : Int) := by omega
  have g0 : ((d : Int) == 1) = false := by simp; omega
  have HM := Lib.hid hb
  have hml : m < l.length := by omega
  clear hb hd
  go_enter Tryz.func103, Tryz.ntmps103
  go_wp2_with fail
  go_loopg [14, 15] m (fun gas s14 s15 wr => ∃ i j : Nat, a ≤ i ∧ i ≤ j ∧ j ≤ m ∧ j - i ≤ gas ∧ s14 = .int .i64 i ∧ s15 = .int .i64 j ∧ SinceOf w wr ∧ (∀ t, a ≤ t → t < i → ltT (keyQ S) (at0 l m) (at0 l t) = false) ∧ (∀ t, j ≤ t → t < m → ltT (keyQ S) (at0 l m) (at0 l t) = true))
  case atStart => exact ⟨a, m, Nat.le_refl _, by omega, Nat.le_refl _, by omega, rfl, rfl, by (repeat (first | (with_reducible exact SinceOf.refl _) | (with_reducible assumption) | (with_reducible refine SinceOf.alloc ?_ _) | (with_reducible refine SinceOf.drew ?_) | (with_reducible refine SinceOf.drewN ?_ _) | (with_reducible refine SinceOf.later ?_ _) | (with_reducible refine SinceOf.further ?_ _) | (with_reducible refine SinceOf.setCell ?_ (by first | exact Nat.le_refl _ | (simp; done) | omega | (simp; omega)) _))), fun t h1 h2 => absurd h1 (by omega), fun t h1 h2 => absurd h1 (by omega)⟩
  case round =>
    obtain ⟨i, j, hmi, hij, hjb, hgas, rfl, rfl, ⟨z, rfl⟩, hlo, hhi⟩ := hrel
    by_cases hlt : i < j
    · obtain ⟨h, hh⟩ : ∃ h, h = (i + j) / 2 := ⟨_, rfl⟩
      have q1 : i ≤ h := by omega
      have q2 : h < j := by omega
      have e2 : ((i : Int) + (j : Int)) / 2 = (h : Int) := by omega
      have hlv := H.out.1.of (w' := z.wd) (by (repeat (first | (with_reducible exact SinceOf.refl _) | (with_reducible assumption) | (with_reducible refine SinceOf.alloc ?_ _) | (with_reducible refine SinceOf.drew ?_) | (with_reducible refine SinceOf.drewN ?_ _) | (with_reducible refine SinceOf.later ?_ _) | (with_reducible refine SinceOf.further ?_ _) | (with_reducible refine SinceOf.setCell ?_ (by first | exact Nat.le_refl _ | (simp; done) | omega | (simp; omega)) _))))
      have hO := hlv.row.there
      have x0 := hlv.row.q0 h (by omega)
      have y0 := hlv.row.q0 m (by omega)
      have hhl : h < l.length := by omega
      have C := fun W (hW : SinceOf z.wd W) => (H.out.2.1.of (SinceOf.trans ⟨z, rfl⟩ hW)).calls (at0 l m) (at0 l h) (at0_D H.out.2.2.2.1 hml) (at0_D H.out.2.2.2.1 hhl)
      have K : ltT (keyQ S) (at0 l m) (at0 l h) = decide (cmpQ S (at0 l m) (at0 l h) < 0) := agreeQ (HX.out h m (by omega) (by omega) (Nat.le_refl _) (by omega))
      have mono1 : ltT (keyQ S) (at0 l m) (at0 l h) = false → ∀ t, a ≤ t → t < h + 1 → ltT (keyQ S) (at0 l m) (at0 l t) = false := fun e t t1 t2 => by
        rcases Nat.lt_or_ge t h with c | c
        · exact H.out.2.2.1.ntrans _ _ _ (at0_D H.out.2.2.2.1 (by omega)) (at0_D H.out.2.2.2.1 (by omega)) (at0_D H.out.2.2.2.1 (by omega)) (H.out.2.2.2.2 t h t1 c (by omega)) e
        · obtain rfl : t = h := by omega
          exact e
      have mono2 : ltT (keyQ S) (at0 l m) (at0 l h) = true → ∀ t, h ≤ t → t < m → ltT (keyQ S) (at0 l m) (at0 l t) = true := fun e t t1 t2 => by
        rcases Nat.lt_or_eq_of_le t1 with c | rfl
        · exact H.out.2.2.1.trans (at0_D H.out.2.2.2.1 (by omega)) (at0_D H.out.2.2.2.1 (by omega)) (at0_D H.out.2.2.2.1 (by omega)) e (H.out.2.2.2.2 h t (by omega) c t2)
        · exact e
      rw [K] at mono1 mono2
      have HL := Lib.hid (And.intro hlo (And.intro hhi (And.intro mono1 mono2)))
      clear hlo hhi mono1 mono2 K hlv hh
      obtain ⟨⟨px, py⟩, hp⟩ : ∃ p, p = at0 l h := ⟨_, rfl⟩
      obtain ⟨⟨qx, qy⟩, hq⟩ : ∃ q, q = at0 l m := ⟨_, rfl⟩
      obtain ⟨v, hv⟩ : ∃ v, v = cmpQ S (at0 l m) (at0 l h) := ⟨_, rfl⟩
      rw [← hv] at C HL
      rw [← hp, ← hq] at C
      rw [← hp] at x0
      rw [← hq] at y0
      simp only at x0 y0 C
      clear hp hq hv
      obtain ⟨bv, hbv⟩ : ∃ bv, bv = decide (v < 0) := ⟨_, rfl⟩
      have gv : decide (v < 0) = bv := hbv.symm
      rw [gv] at HL
      clear hbv
      go_upto_region 17 with fail
      go_cut [103] (fun s103 wx => s103 = .bool (!bv) ∧ SinceOf z.wd wx)
      case first =>
        go_region_held3 (fun w' => w'.cell? ⟨g, off + h, none⟩ = some (.int .i64 px) ∧ w'.cell? ⟨g, off + m, none⟩ = some (.int .i64 qx)) ((simp [go_sem, *]))
          ((go_at_call 36; (with_reducible refine (C _ (by (repeat (first | (with_reducible exact SinceOf.refl _) | (with_reducible assumption) | (with_reducible refine SinceOf.alloc ?_ _) | (with_reducible refine SinceOf.drew ?_) | (with_reducible refine SinceOf.drewN ?_ _) | (with_reducible refine SinceOf.later ?_ _) | (with_reducible refine SinceOf.further ?_ _) | (with_reducible refine SinceOf.setCell ?_ (by first | exact Nat.le_refl _ | (simp; done) | omega | (simp; omega)) _))))).calls.mono ?_); rintro e _ ⟨rfl, y1, rfl⟩))
        all_goals
          go_wp2_with fail
          go_meet
          exact ⟨by simp [gv], by (repeat (first | (with_reducible exact SinceOf.refl _) | (with_reducible assumption) | (with_reducible refine SinceOf.alloc ?_ _) | (with_reducible refine SinceOf.drew ?_) | (with_reducible refine SinceOf.drewN ?_ _) | (with_reducible refine SinceOf.later ?_ _) | (with_reducible refine SinceOf.further ?_ _) | (with_reducible refine SinceOf.setCell ?_ (by first | exact Nat.le_refl _ | (simp; done) | omega | (simp; omega)) _)))⟩
      case rest =>
        obtain ⟨rfl, ⟨z2, rfl⟩⟩ := hcut
        clear C x0 y0
        cases bv
        · go_wp2_with fail
          go_roundg (j - (h + 1))
          case measure => omega
          case rel => exact ⟨h + 1, j, by omega, by omega, hjb, Nat.le_refl _, by go_num, rfl, by (repeat (first | (with_reducible exact SinceOf.refl _) | (with_reducible assumption) | (with_reducible refine SinceOf.alloc ?_ _) | (with_reducible refine SinceOf.drew ?_) | (with_reducible refine SinceOf.drewN ?_ _) | (with_reducible refine SinceOf.later ?_ _) | (with_reducible refine SinceOf.further ?_ _) | (with_reducible refine SinceOf.setCell ?_ (by first | exact Nat.le_refl _ | (simp; done) | omega | (simp; omega)) _))), HL.out.2.2.1 (by first | rfl | trivial), HL.out.2.1⟩
        · go_wp2_with fail
          go_roundg (h - i)
          case measure => omega
          case rel => exact ⟨i, h, hmi, q1, by omega, Nat.le_refl _, rfl, rfl, by (repeat (first | (with_reducible exact SinceOf.refl _) | (with_reducible assumption) | (with_reducible refine SinceOf.alloc ?_ _) | (with_reducible refine SinceOf.drew ?_) | (with_reducible refine SinceOf.drewN ?_ _) | (with_reducible refine SinceOf.later ?_ _) | (with_reducible refine SinceOf.further ?_ _) | (with_reducible refine SinceOf.setCell ?_ (by first | exact Nat.le_refl _ | (simp; done) | omega | (simp; omega)) _))), HL.out.1, HL.out.2.2.2 (by first | rfl | trivial)⟩
    · obtain rfl : i = j := by omega
      have HL := Lib.hid (And.intro hlo hhi)
      clear hlo hhi
      go_wp2_with fail
      go_loopg [17] (m - i) (fun gas s17 wr => ∃ k : Nat, i ≤ k ∧ k ≤ m ∧ k - i ≤ gas ∧ s17 = .int .i64 k ∧ Live encQ 1 wr g off (dnF l m (m - k)) ∧ z.wd.grownBy wr (some g))
      case atStart => exact ⟨m, hjb, Nat.le_refl _, Nat.le_refl _, rfl, (by rw [Nat.sub_self]; exact H.out.1.of (by (repeat (first | (with_reducible exact SinceOf.refl _) | (with_reducible assumption) | (with_reducible refine SinceOf.alloc ?_ _) | (with_reducible refine SinceOf.drew ?_) | (with_reducible refine SinceOf.drewN ?_ _) | (with_reducible refine SinceOf.later ?_ _) | (with_reducible refine SinceOf.further ?_ _) | (with_reducible refine SinceOf.setCell ?_ (by first | exact Nat.le_refl _ | (simp; done) | omega | (simp; omega)) _))))), World.grownBy.refl _ _⟩
      case round =>
        obtain ⟨x, hax, hxk, hgas, rfl, hlv, hgr⟩ := hrel
        obtain ⟨u, rfl⟩ : ∃ u, u = wr := ⟨_, rfl⟩
        by_cases hlt2 : i < x
        · obtain ⟨L, hLd⟩ : ∃ L, L = dnF l m (m - x) := ⟨_, rfl⟩
          have hll : L.length = l.length := by rw [hLd]; exact dnF_len l m _
          obtain ⟨y, hy⟩ : ∃ y, y = x - 1 := ⟨_, rfl⟩
          have hsw : dnF l m (m - y) = swp2 L x y := by
            rw [show m - y = (m - x) + 1 by omega, dnF, hLd, show m - (m - x) = x by omega, hy]
          rw [← hLd] at hlv
          have hxl : x < L.length := by omega
          have hyl : y < L.length := by omega
          have ey : (x : Int) - 1 = (y : Int) := by omega
          have wy : IntKind.i64.wrap (y : Int) = (y : Int) := IntWalk.i64_in _ (by omega)
          have x0 := hlv.row.q0 x hxl
          have y0 := hlv.row.q0 y hyl
          have fx0 := hlv.free x (by omega)
          have fy0 := hlv.free y (by omega)
          have hO := hlv.row.there
          have hxl' : x < l.length := by omega
          have hyl' : y < l.length := by omega
          have hxy : y < x := by omega
          have hiy : i ≤ y := by omega
          obtain ⟨⟨px, py⟩, hp⟩ : ∃ p, p = at0 L x := ⟨_, rfl⟩
          obtain ⟨⟨qx, qy⟩, hq⟩ : ∃ q, q = at0 L y := ⟨_, rfl⟩
          rw [← hp] at x0
          rw [← hq] at y0
          simp only at x0 y0
          have HS := Lib.hid (And.intro (hlv.swapQ hxl hyl hp.symm hq.symm) (And.intro hsw hgr))
          clear hlv hsw hgr hp hq hLd e1 hy
          go_upto_region 23 with fail
          go_big_region
          all_goals go_wp2_with fail
          all_goals go_roundg (y - i)
          case measure => omega
          case rel => exact ⟨y, hiy, by omega, Nat.le_refl _, (by first | rfl | go_num), by rw [HS.out.2.1]; exact HS.out.1.drewQ, (HS.out.2.2.trans (swapQ_grown _ _ _ _ _ _)).trans (grownBy_drewQ _ _)⟩
        · obtain rfl : x = i := by omega
          have HR := Lib.hid (And.intro hlv hgr)
          clear hlv hgr
          go_wp2_with fail
          go_returns
          refine ⟨rfl, _, HR.out.1, ?_, ?_, (SinceOf.grown_anyQ ⟨z, rfl⟩ _).trans HR.out.2⟩
          · rw [HM.out]
            exact dnF_re (by omega) (by omega) (by omega) h3
          · rw [HM.out]
            exact sd_dn H.out.2.2.1 H.out.2.2.2.1 hml H.out.2.2.2.2 hmi hjb HL.out.1 HL.out.2
end Go.Proofs.YtkpnffokjpgalaaGreat
