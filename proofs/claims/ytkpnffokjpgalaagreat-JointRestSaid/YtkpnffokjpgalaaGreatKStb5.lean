/- Layer 46: symMerge puts two sorted ranges of indices in order. -/
import Derived.Test.YtkpnffokjpgalaaGreatKStb2
namespace Go.Proofs.YtkpnffokjpgalaaGreat
set_option linter.unusedVariables false
set_option linter.unusedSimpArgs false
open Go.RowKit Go.Sort
attribute [local go_sem ↓] Go.wp_at_zero Go.wp_at_succ

set_option maxRecDepth 100000 in
set_option maxHeartbeats 8000000 in
theorem symRec_any (A : Option Addr) (cA : Nat) (S : List SegP) (b7 g off c a m b : Nat) (l : List Pt) (w : World)
    (IH : ∀ a' m' b' (l' : List Pt) (w' : World), b' - a' < b - a → Live encQ 1 w' g off l' → CmpQ A cA S w' b7 g → (∀ x ∈ l', InR S.length x) → l'.length ≤ 100000 → a' < m' → m' < b' → b' ≤ l'.length → Sd (ltT (keyQ S)) l' a' m' → Sd (ltT (keyQ S)) l' m' b' → SepIn l' a' m' b' → Calls Tryz.prog 103 #[.slice (some ⟨g, off, none⟩) l'.length c, .int .i64 a', .int .i64 m', .int .i64 b', fvQ b7] w' (SymQ (keyQ S) w' g off l' a' b'))
    (hL : Live encQ 1 w g off l) (hC : CmpQ A cA S w b7 g) (hD : ∀ x ∈ l, InR S.length x) (hn : l.length ≤ 100000) (h1 : a + 1 < m) (h2 : m + 1 < b) (h3 : b ≤ l.length) (hs1 : Sd (ltT (keyQ S)) l a m) (hs2 : Sd (ltT (keyQ S)) l m b) (hX : SepIn l a m b) :
    Calls Tryz.prog 103 #[.slice (some ⟨g, off, none⟩) l.length c, .int .i64 a, .int .i64 m, .int .i64 b, fvQ b7] w (SymQ (keyQ S) w g off l a b) := by
  have H := Lib.hid (And.intro hL (And.intro hC (And.intro (ordR S.length (keyQ S)) (And.intro hD (And.intro hs1 (And.intro hs2 IH))))))
  have HX := Lib.hid hX
  clear hL hC hD hs1 hs2 hX IH
  unfold SymQ fvQ
  obtain ⟨d, hd⟩ : ∃ d, d = m - a := ⟨_, rfl⟩
  have e0 : (m : Int) - (a : Int) = (d : Int) := by omega
  have g0 : ((d : Int) == 1) = false := by simp; omega
  obtain ⟨d2, hd2⟩ : ∃ d, d = b - m := ⟨_, rfl⟩
  have e1 : (b : Int) - (m : Int) = (d2 : Int) := by omega
  have g1 : ((d2 : Int) == 1) = false := by simp; omega
  obtain ⟨mid, hmid⟩ : ∃ mid, mid = (a + b) / 2 := ⟨_, rfl⟩
  have e2 : ((a : Int) + (b : Int)) / 2 = (mid : Int) := by omega
  obtain ⟨nn, hnn⟩ : ∃ nn, nn = mid + m := ⟨_, rfl⟩
  have e3 : (mid : Int) + (m : Int) = (nn : Int) := by omega
  obtain ⟨lo, hlo⟩ : ∃ lo, lo = if mid < m then nn - b else a := ⟨_, rfl⟩
  obtain ⟨hi, hhi⟩ : ∃ hi, hi = if mid < m then mid else m := ⟨_, rfl⟩
  have HLH := Lib.hid (And.intro hlo hhi)
  have HMID := Lib.hid (And.intro hmid hnn)
  have bm : a < mid ∧ mid < b ∧ nn < 300000 ∧ 0 < nn := by omega
  have blh : a ≤ lo ∧ lo ≤ hi ∧ hi ≤ m ∧ hi ≤ mid ∧ nn ≤ b + lo := by
    split at hlo <;> split at hhi <;> omega
  obtain ⟨bm1, bm2, bm3, bm4⟩ := bm
  obtain ⟨bl1, bl2, bl3, bl4, bl5⟩ := blh
  clear hd hd2 hmid hnn hlo hhi
  go_enter Tryz.func103, Tryz.ntmps103
  go_upto_if 140 with fail
  go_cut [20, 21] from 141 to 146 (fun s20 s21 wx => s20 = .int .i64 lo ∧ s21 = .int .i64 hi ∧ wx = w)
  case first =>
    by_cases q : mid < m
    · have f : decide ((mid : Int) < (m : Int)) = true := decide_eq_true (by omega)
      have f2 : (nn : Int) - (b : Int) = (lo : Int) := by have := HLH.out.1; rw [if_pos q] at this; have := HMID.out; omega
      have f3 : hi = mid := by rw [HLH.out.2, if_pos q]
      have HF := Lib.hid f3
      clear f3
      go_wp2_with fail
      go_meet
      exact ⟨by first | rfl | simp [f2], by rw [HF.out], rfl⟩
    · have f : decide ((mid : Int) < (m : Int)) = false := decide_eq_false (by omega)
      have f2 : lo = a := by rw [HLH.out.1, if_neg q]
      have f3 : hi = m := by rw [HLH.out.2, if_neg q]
      have HF := Lib.hid (And.intro f2 f3)
      clear f2 f3
      go_wp2_with fail
      go_meet
      exact ⟨by rw [HF.out.1], by rw [HF.out.2], rfl⟩
  case rest =>
    obtain ⟨rfl, rfl, hw⟩ := hcut
    have hw := hw.symm
    subst hw
    obtain ⟨p, hp⟩ : ∃ p, p = nn - 1 := ⟨_, rfl⟩
    have e4 : (nn : Int) - 1 = (p : Int) := by omega
    have HP := Lib.hid hp
    have hp2 : p + 1 = nn := by omega
    clear hp g0 g1 e0 e1
    go_wp2_with fail
    go_loopg [20, 21] m (fun gas s20 s21 wr => ∃ i j : Nat, lo ≤ i ∧ i ≤ j ∧ j ≤ hi ∧ j - i ≤ gas ∧ s20 = .int .i64 i ∧ s21 = .int .i64 j ∧ SinceOf w wr ∧ (lo < i → ltT (keyQ S) (at0 l (p - (i - 1))) (at0 l (i - 1)) = false) ∧ (j < hi → ltT (keyQ S) (at0 l (p - j)) (at0 l j) = true))
    case atStart => exact ⟨lo, hi, Nat.le_refl _, bl2, Nat.le_refl _, by omega, rfl, rfl, by (repeat (first | (with_reducible exact SinceOf.refl _) | (with_reducible assumption) | (with_reducible refine SinceOf.alloc ?_ _) | (with_reducible refine SinceOf.drew ?_) | (with_reducible refine SinceOf.drewN ?_ _) | (with_reducible refine SinceOf.later ?_ _) | (with_reducible refine SinceOf.further ?_ _) | (with_reducible refine SinceOf.setCell ?_ (by first | exact Nat.le_refl _ | (simp; done) | omega | (simp; omega)) _))), fun h => absurd h (by omega), fun h => absurd h (by omega)⟩
    case round =>
      obtain ⟨i, j, hmi, hij, hjb, hgas, rfl, rfl, ⟨z, rfl⟩, hlo, hhi⟩ := hrel
      by_cases hlt : i < j
      · obtain ⟨h, hh⟩ : ∃ h, h = (i + j) / 2 := ⟨_, rfl⟩
        have q1 : i ≤ h := by omega
        have q2 : h < j := by omega
        have e5 : ((i : Int) + (j : Int)) / 2 = (h : Int) := by omega
        obtain ⟨y, hy⟩ : ∃ y, y = p - h := ⟨_, rfl⟩
        have e6 : (p : Int) - (h : Int) = (y : Int) := by omega
        have hyl : y < l.length := by omega
        have wy : IntKind.i64.wrap (y : Int) = (y : Int) := IntWalk.i64_in _ (by omega)
        have hlv := H.out.1.of (w' := z.wd) (by (repeat (first | (with_reducible exact SinceOf.refl _) | (with_reducible assumption) | (with_reducible refine SinceOf.alloc ?_ _) | (with_reducible refine SinceOf.drew ?_) | (with_reducible refine SinceOf.drewN ?_ _) | (with_reducible refine SinceOf.later ?_ _) | (with_reducible refine SinceOf.further ?_ _) | (with_reducible refine SinceOf.setCell ?_ (by first | exact Nat.le_refl _ | (simp; done) | omega | (simp; omega)) _))))
        have hO := hlv.row.there
        have x0 := hlv.row.q0 h (by omega)
        have y0 := hlv.row.q0 y (by omega)
        have hhl : h < l.length := by omega
        have C := fun W (hW : SinceOf z.wd W) => (H.out.2.1.of (SinceOf.trans ⟨z, rfl⟩ hW)).calls (at0 l y) (at0 l h) (at0_D H.out.2.2.2.1 hyl) (at0_D H.out.2.2.2.1 hhl)
        have st1 : ltT (keyQ S) (at0 l y) (at0 l h) = false → (lo < h + 1 → ltT (keyQ S) (at0 l (p - (h + 1 - 1))) (at0 l (h + 1 - 1)) = false) := fun e _ => by
          rw [Nat.add_sub_cancel, ← hy]; exact e
        have st2 : ltT (keyQ S) (at0 l y) (at0 l h) = true → (h < hi → ltT (keyQ S) (at0 l (p - h)) (at0 l h) = true) := fun e _ => by
          rw [← hy]; exact e
        rw [agreeQ (HX.out h y (by omega) (by omega) (by have := HMID.out; have := HP.out; omega) (by have := HMID.out; have := HP.out; omega))] at st1 st2
        have HL := Lib.hid (And.intro hlo (And.intro hhi (And.intro st1 st2)))
        clear hlo hhi st1 st2 hlv hh hy
        obtain ⟨⟨px, py⟩, hp⟩ : ∃ p, p = at0 l h := ⟨_, rfl⟩
        obtain ⟨⟨qx, qy⟩, hq⟩ : ∃ q, q = at0 l y := ⟨_, rfl⟩
        obtain ⟨v, hv⟩ : ∃ v, v = cmpQ S (at0 l y) (at0 l h) := ⟨_, rfl⟩
        rw [← hv] at C HL
        rw [← hp, ← hq] at C
        rw [← hp] at x0
        rw [← hq] at y0
        simp only at x0 y0 C
        clear hp hq hv
        obtain ⟨bv, hbv⟩ : ∃ bv, bv = decide (v < 0) := ⟨_, rfl⟩
        have gv : decide (v < 0) = bv := hbv.symm
        rw [gv] at HL
        clear hbv
        go_upto_region 35 with fail
        go_cut [171] from 158 to 171 (fun s171 wx => s171 = .bool (!bv) ∧ SinceOf z.wd wx)
        case first =>
          go_region_held3 (fun w' => w'.cell? ⟨g, off + h, none⟩ = some (.int .i64 px) ∧ w'.cell? ⟨g, off + y, none⟩ = some (.int .i64 qx)) ((simp [go_sem, *]))
            ((go_at_call 36; (with_reducible refine (C _ (by (repeat (first | (with_reducible exact SinceOf.refl _) | (with_reducible assumption) | (with_reducible refine SinceOf.alloc ?_ _) | (with_reducible refine SinceOf.drew ?_) | (with_reducible refine SinceOf.drewN ?_ _) | (with_reducible refine SinceOf.later ?_ _) | (with_reducible refine SinceOf.further ?_ _) | (with_reducible refine SinceOf.setCell ?_ (by first | exact Nat.le_refl _ | (simp; done) | omega | (simp; omega)) _))))).calls.mono ?_); rintro e _ ⟨rfl, y1, rfl⟩))
          all_goals
            go_wp2_with fail
            go_meet
            exact ⟨by simp [gv], by (repeat (first | (with_reducible exact SinceOf.refl _) | (with_reducible assumption) | (with_reducible refine SinceOf.alloc ?_ _) | (with_reducible refine SinceOf.drew ?_) | (with_reducible refine SinceOf.drewN ?_ _) | (with_reducible refine SinceOf.later ?_ _) | (with_reducible refine SinceOf.further ?_ _) | (with_reducible refine SinceOf.setCell ?_ (by first | exact Nat.le_refl _ | (simp; done) | omega | (simp; omega)) _)))⟩
        case rest =>
          obtain ⟨rfl, ⟨z2, rfl⟩⟩ := hcut
          clear C x0 y0
          cases bv
          · go_wp2_with fail
            go_roundg (j - (h + 1))
            case measure => omega
            case rel => exact ⟨h + 1, j, by omega, by omega, hjb, Nat.le_refl _, by go_num, rfl, by (repeat (first | (with_reducible exact SinceOf.refl _) | (with_reducible assumption) | (with_reducible refine SinceOf.alloc ?_ _) | (with_reducible refine SinceOf.drew ?_) | (with_reducible refine SinceOf.drewN ?_ _) | (with_reducible refine SinceOf.later ?_ _) | (with_reducible refine SinceOf.further ?_ _) | (with_reducible refine SinceOf.setCell ?_ (by first | exact Nat.le_refl _ | (simp; done) | omega | (simp; omega)) _))), HL.out.2.2.1 (by first | rfl | trivial), HL.out.2.1⟩
          · go_wp2_with fail
            go_roundg (h - i)
            case measure => omega
            case rel => exact ⟨i, h, hmi, q1, by omega, Nat.le_refl _, rfl, rfl, by (repeat (first | (with_reducible exact SinceOf.refl _) | (with_reducible assumption) | (with_reducible refine SinceOf.alloc ?_ _) | (with_reducible refine SinceOf.drew ?_) | (with_reducible refine SinceOf.drewN ?_ _) | (with_reducible refine SinceOf.later ?_ _) | (with_reducible refine SinceOf.further ?_ _) | (with_reducible refine SinceOf.setCell ?_ (by first | exact Nat.le_refl _ | (simp; done) | omega | (simp; omega)) _))), HL.out.1, HL.out.2.2.2 (by first | rfl | trivial)⟩
      · obtain rfl : i = j := by omega
        have CU : Cut (ltT (keyQ S)) l a m b i := by
          have q1 := HLH.out
          have q2 := HMID.out
          have q3 := HP.out
          rw [q3, q2.2, q2.1] at hlo hhi
          rw [q2.2, q2.1] at q1
          exact cut_of H.out.2.2.1 H.out.2.2.2.1 h3 (by omega) (by omega) H.out.2.2.2.2.1 H.out.2.2.2.2.2.1 q1 hmi hjb hlo hhi
        obtain ⟨e, he⟩ : ∃ e, e = nn - i := ⟨_, rfl⟩
        have e5 : (nn : Int) - (i : Int) = (e : Int) := by omega
        have be : mid ≤ e ∧ m ≤ e ∧ e ≤ b ∧ i ≤ mid ∧ i ≤ m := by
          have := HMID.out; omega
        obtain ⟨be1, be2, be3, be4, be5⟩ := be
        have hee : (a + b) / 2 + m - i = e := by have := HMID.out; omega
        have SO := fun (l' : List Pt) (hR : Rot l l' i m e) => CU.sorted H.out.2.2.1 H.out.2.2.2.1 h3 (show a < m by omega) (show m < b by omega) H.out.2.2.2.2.1 H.out.2.2.2.2.2.1 (l' := l') (by rw [hee]; exact hR)
        rw [hee, ← HMID.out.1] at SO
        have HS := Lib.hid SO
        clear hlo hhi CU SO he hee
        have LZ := H.out.1.of (w' := z.wd) (by (repeat (first | (with_reducible exact SinceOf.refl _) | (with_reducible assumption) | (with_reducible refine SinceOf.alloc ?_ _) | (with_reducible refine SinceOf.drew ?_) | (with_reducible refine SinceOf.drewN ?_ _) | (with_reducible refine SinceOf.later ?_ _) | (with_reducible refine SinceOf.further ?_ _) | (with_reducible refine SinceOf.setCell ?_ (by first | exact Nat.le_refl _ | (simp; done) | omega | (simp; omega)) _))))
        have GZ : w.grownBy z.wd (some g) := SinceOf.grown_anyQ ⟨z, rfl⟩ _
        have HZ := Lib.hid (And.intro LZ GZ)
        clear LZ GZ
        go_upto_region 39 with fail
        go_cut [185] from 178 to 185 (fun s185 wx => s185 = .bool (decide (i < m) && decide (m < e)) ∧ wx = z.wd)
        case first =>
          by_cases q1 : i < m
          · have f1 : decide ((i : Int) < (m : Int)) = true := decide_eq_true (by omega)
            by_cases q2 : m < e
            · have f2 : decide ((m : Int) < (e : Int)) = true := decide_eq_true (by omega)
              go_wp2_with fail
              go_meet
              exact ⟨by simp [q1, q2], rfl⟩
            · have f2 : decide ((m : Int) < (e : Int)) = false := decide_eq_false (by omega)
              go_wp2_with fail
              go_meet
              exact ⟨by simp [q1, q2], rfl⟩
          · have f1 : decide ((i : Int) < (m : Int)) = false := decide_eq_false (by omega)
            go_wp2_with fail
            go_meet
            exact ⟨by simp [q1], rfl⟩
        case rest =>
          obtain ⟨rfl, rfl⟩ := hcut
          obtain ⟨t1, ht1⟩ : ∃ t1, t1 = (decide (i < m) && decide (m < e)) := ⟨_, rfl⟩
          rw [← ht1]
          have HT1 := Lib.hid ht1
          clear ht1
          go_upto_if 185 with fail
          go_cut [] from 186 to 191 (fun wx => ∃ l1, Live encQ 1 wx g off l1 ∧ Rot l l1 i m e ∧ Re l l1 i e ∧ w.grownBy wx (some g))
          case first =>
            cases t1
            · have q := HT1.out
              simp at q
              go_wp2_with fail
              go_meet
              exact ⟨l, HZ.out.1, Rot.none ⟨be5, be2⟩ (by omega), Re.refl _ _ _, HZ.out.2⟩
            · have q := HT1.out
              simp at q
              have RO := rotate_any g off c i m e l z.wd (fvQ b7) HZ.out.1 hn q.1 q.2 (by omega)
              unfold fvQ at RO
              clear q
              go_wp2_with fail
              refine RO.mono ?_
              rintro e9 w9 ⟨rfl, l1, hl1, hr1, hr2, hg1⟩
              have HR := Lib.hid (And.intro hl1 (And.intro hr1 (And.intro hr2 hg1)))
              clear RO hl1 hr1 hr2 hg1
              go_wp2_with fail
              go_meet
              exact ⟨l1, HR.out.1, HR.out.2.1, HR.out.2.2.1, HZ.out.2.trans HR.out.2.2.2⟩
          case rest =>
            obtain ⟨l1, hl1, hr1, hr2, hg1⟩ := hcut
            obtain ⟨u1, rfl⟩ : ∃ u, u = wc := ⟨_, rfl⟩
            have S1 := HS.out l1 hr1
            have hd1 := hr2.allD H.out.2.2.2.1
            have hln1 := hr2.len
            have HX1 := Lib.hid (And.intro (HX.out.left hr1 be5 be4 (by have := HMID.out; omega) be3 be2 : SepIn l1 a i mid) (HX.out.right hr1 (by omega) be5 be4 (by have := HMID.out; omega) be3 be2 : SepIn l1 mid e b))
            have H1 := Lib.hid (And.intro hl1 (And.intro (hr2.mono (show a ≤ i by omega) be3) (And.intro hg1 (And.intro hd1 (And.intro hln1 (H.out.2.1.kept hg1))))))
            have HS1 := Lib.hid S1
            clear hl1 hr1 hr2 hg1 S1 hd1 hln1 HS HT1 HZ
            go_upto_region 41 with fail
            go_cut [199] from 192 to 199 (fun s199 wx => s199 = .bool (decide (a < i) && decide (i < mid)) ∧ wx = u1)
            case first =>
              by_cases q1 : a < i
              · have f1 : decide ((a : Int) < (i : Int)) = true := decide_eq_true (by omega)
                by_cases q2 : i < mid
                · have f2 : decide ((i : Int) < (mid : Int)) = true := decide_eq_true (by omega)
                  go_wp2_with fail
                  go_meet
                  exact ⟨by simp [q1, q2], rfl⟩
                · have f2 : decide ((i : Int) < (mid : Int)) = false := decide_eq_false (by omega)
                  go_wp2_with fail
                  go_meet
                  exact ⟨by simp [q1, q2], rfl⟩
              · have f1 : decide ((a : Int) < (i : Int)) = false := decide_eq_false (by omega)
                go_wp2_with fail
                go_meet
                exact ⟨by simp [q1], rfl⟩
            case rest =>
              obtain ⟨rfl, rfl⟩ := hcut
              obtain ⟨t2, ht2⟩ : ∃ t, t = (decide (a < i) && decide (i < mid)) := ⟨_, rfl⟩
              rw [← ht2]
              have HT2 := Lib.hid ht2
              clear ht2
              go_upto_if 199 with fail
              go_cut [] from 200 to 205 (fun wx => ∃ l2, Live encQ 1 wx g off l2 ∧ Re l1 l2 a mid ∧ Sd (ltT (keyQ S)) l2 a mid ∧ w.grownBy wx (some g))
              case first =>
                cases t2
                · have q := HT2.out
                  simp at q
                  have hsd : Sd (ltT (keyQ S)) l1 a mid := by
                    by_cases q1 : a < i
                    · have := q q1
                      obtain rfl : i = mid := by omega
                      exact HS1.out.1
                    · obtain rfl : a = i := by omega
                      exact HS1.out.2.1
                  have HQ := Lib.hid hsd
                  clear q hsd
                  go_wp2_with fail
                  go_meet
                  exact ⟨l1, H1.out.1, Re.refl _ _ _, HQ.out, H1.out.2.2.1⟩
                · have q := HT2.out
                  simp at q
                  have I := H.out.2.2.2.2.2.2 a i mid l1 wc (by omega) H1.out.1 H1.out.2.2.2.2.2 H1.out.2.2.2.1 (by rw [H1.out.2.2.2.2.1]; exact hn) q.1 q.2 (by rw [H1.out.2.2.2.2.1]; omega) HS1.out.1 HS1.out.2.1 HX1.out.1
                  rw [H1.out.2.2.2.2.1] at I
                  unfold fvQ at I
                  clear q
                  go_wp2_with fail
                  refine I.mono ?_
                  rintro e9 w9 ⟨rfl, l2, hl2, hr2, hs2, hg2⟩
                  have HR := Lib.hid (And.intro hl2 (And.intro hr2 (And.intro hs2 hg2)))
                  clear I hl2 hr2 hs2 hg2
                  go_wp2_with fail
                  go_meet
                  exact ⟨l2, HR.out.1, HR.out.2.1, HR.out.2.2.1, H1.out.2.2.1.trans HR.out.2.2.2⟩
              case rest =>
                obtain ⟨l2, hl2, hr2, hs2, hg2⟩ := hcut
                obtain ⟨u2, rfl⟩ : ∃ u, u = wc := ⟨_, rfl⟩
                have H2 := Lib.hid (And.intro hl2 (And.intro hr2 (And.intro hs2 (And.intro hg2 (And.intro (hr2.allD H1.out.2.2.2.1) (And.intro (hr2.len.trans H1.out.2.2.2.2.1) (H.out.2.1.kept hg2)))))))
                clear hl2 hr2 hs2 hg2 HT2
                go_upto_region 43 with fail
                go_cut [213] from 206 to 213 (fun s213 wx => s213 = .bool (decide (mid < e) && decide (e < b)) ∧ wx = u2)
                case first =>
                  by_cases q1 : mid < e
                  · have f1 : decide ((mid : Int) < (e : Int)) = true := decide_eq_true (by omega)
                    by_cases q2 : e < b
                    · have f2 : decide ((e : Int) < (b : Int)) = true := decide_eq_true (by omega)
                      go_wp2_with fail
                      go_meet
                      exact ⟨by simp [q1, q2], rfl⟩
                    · have f2 : decide ((e : Int) < (b : Int)) = false := decide_eq_false (by omega)
                      go_wp2_with fail
                      go_meet
                      exact ⟨by simp [q1, q2], rfl⟩
                  · have f1 : decide ((mid : Int) < (e : Int)) = false := decide_eq_false (by omega)
                    go_wp2_with fail
                    go_meet
                    exact ⟨by simp [q1], rfl⟩
                case rest =>
                  obtain ⟨rfl, rfl⟩ := hcut
                  obtain ⟨t3, ht3⟩ : ∃ t, t = (decide (mid < e) && decide (e < b)) := ⟨_, rfl⟩
                  rw [← ht3]
                  have HT3 := Lib.hid ht3
                  clear ht3
                  have fin : ∀ l3, Re l2 l3 mid b → Sd (ltT (keyQ S)) l3 mid b → Re l l3 a b ∧ Sd (ltT (keyQ S)) l3 a b := fun l3 r3 s3 =>
                    ⟨(H1.out.2.1.trans (H2.out.2.1.mono (Nat.le_refl _) (by omega))).trans (r3.mono (by omega) (Nat.le_refl _)), sd_join H2.out.2.1 r3 (by omega) (by omega) H2.out.2.2.1 s3 HS1.out.2.2.2.2⟩
                  have HF := Lib.hid fin
                  clear fin
                  cases t3
                  · have q := HT3.out
                    simp at q
                    have hsd : Sd (ltT (keyQ S)) l2 mid b := by
                      by_cases q1 : mid < e
                      · have := q q1
                        obtain rfl : e = b := by omega
                        exact HS1.out.2.2.1.out H2.out.2.1 (.inr (Nat.le_refl _))
                      · obtain rfl : mid = e := by omega
                        exact HS1.out.2.2.2.1.out H2.out.2.1 (.inr (Nat.le_refl _))
                    have HQ := Lib.hid hsd
                    clear q hsd
                    go_wp2_with fail
                    go_returns
                    exact ⟨rfl, l2, H2.out.1, (HF.out l2 (Re.refl _ _ _) HQ.out).1, (HF.out l2 (Re.refl _ _ _) HQ.out).2, H2.out.2.2.2.1⟩
                  · have q := HT3.out
                    simp at q
                    have I := H.out.2.2.2.2.2.2 mid e b l2 wc (by omega) H2.out.1 H2.out.2.2.2.2.2.2 H2.out.2.2.2.2.1 (by rw [H2.out.2.2.2.2.2.1]; exact hn) q.1 q.2 (by rw [H2.out.2.2.2.2.2.1]; omega) (HS1.out.2.2.1.out H2.out.2.1 (.inr (Nat.le_refl _))) (HS1.out.2.2.2.1.out H2.out.2.1 (.inr (by omega))) (HX1.out.2.re H2.out.2.1 (Nat.le_refl _))
                    rw [H2.out.2.2.2.2.2.1] at I
                    unfold fvQ at I
                    clear q
                    go_wp2_with fail
                    refine I.mono ?_
                    rintro e9 w9 ⟨rfl, l3, hl3, hr3, hs3, hg3⟩
                    have HR := Lib.hid (And.intro hl3 (And.intro hr3 (And.intro hs3 hg3)))
                    clear I hl3 hr3 hs3 hg3
                    go_wp2_with fail
                    go_returns
                    exact ⟨rfl, l3, HR.out.1, (HF.out l3 HR.out.2.1 HR.out.2.2.1).1, (HF.out l3 HR.out.2.1 HR.out.2.2.1).2, H2.out.2.2.2.1.trans HR.out.2.2.2⟩
/-- The whole: two sorted ranges are merged. -/
theorem symMerge_any (A : Option Addr) (cA : Nat) (S : List SegP) (b7 g off c : Nat) : ∀ (k a m b : Nat) (l : List Pt) (w : World), b - a ≤ k → Live encQ 1 w g off l → CmpQ A cA S w b7 g → (∀ x ∈ l, InR S.length x) → l.length ≤ 100000 → a < m → m < b → b ≤ l.length → Sd (ltT (keyQ S)) l a m → Sd (ltT (keyQ S)) l m b → SepIn l a m b →
    Calls Tryz.prog 103 #[.slice (some ⟨g, off, none⟩) l.length c, .int .i64 a, .int .i64 m, .int .i64 b, fvQ b7] w (SymQ (keyQ S) w g off l a b)
  | 0, a, m, b, l, w, hk, _, _, _, _, h1, h2, _, _, _, _ => absurd hk (by omega)
  | k + 1, a, m, b, l, w, hk, hL, hC, hD, hn, h1, h2, h3, s1, s2, hX => by
    by_cases m1 : m = a + 1
    · subst m1
      exact symOne_any A cA S b7 g off c a b l w hL hC hD hn h2 h3 s2 hX
    · by_cases b1 : b = m + 1
      · subst b1
        exact symLast_any A cA S b7 g off c a m l w hL hC hD hn (by omega) h3 s1 hX
      · exact symRec_any A cA S b7 g off c a m b l w (fun a' m' b' l' w' hlt => symMerge_any A cA S b7 g off c k a' m' b' l' w' (by omega)) hL hC hD hn (by omega) (by omega) h3 s1 s2 hX
end Go.Proofs.YtkpnffokjpgalaaGreat
/- Layer 46: slices.SortStableFunc puts indices in order by their keys, those with equal keys in their own order. -/
namespace Go.Proofs.YtkpnffokjpgalaaGreat
set_option linter.unusedVariables false
set_option linter.unusedSimpArgs false
open Go.RowKit Go.Sort
attribute [local go_sem ↓] Go.wp_at_zero Go.wp_at_succ

/-- The blocks from the s-th on are in order, and all ahead of them is less. -/
def Bl (lt : Pt → Pt → Bool) (L : List Pt) (bs n : Nat) (s : Nat) : Prop := Sd lt L (s * bs) (min (s * bs + bs) n) ∧ SepAt L (s * bs)
theorem bl_two {lt : Pt → Pt → Bool} {L : List Pt} {bs n t : Nat} : (2 * t) * bs = t * (2 * bs) := by rw [Nat.mul_comm 2 t, Nat.mul_assoc]
theorem bl_none {lt : Pt → Pt → Bool} {L : List Pt} {bs n s : Nat} (h : n ≤ s * bs) (hl : L.length ≤ n) : Bl lt L bs n s := ⟨fun i j q1 q2 q3 => absurd q3 (by rw [Nat.min_eq_right (by omega)]; omega), SepAt.past (by omega)⟩
theorem mul_lt_of {s t bs : Nat} (h : s < t) : s * bs + bs ≤ t * bs := by
  have := Nat.mul_le_mul_right bs (show s + 1 ≤ t from h)
  rw [Nat.succ_mul] at this
  exact this

set_option maxRecDepth 100000 in
set_option maxHeartbeats 8000000 in
theorem stableC_any (A : Option Addr) (cA : Nat) (S : List SegP) (b7 g off c : Nat) (l : List Pt) (w : World) (hL : Live encQ 1 w g off l) (hC : CmpQ A cA S w b7 g) (hD : ∀ x ∈ l, InR S.length x) (hn : l.length ≤ 100000) (hX : Asc l) :
    Calls Tryz.prog 80 #[.slice (some ⟨g, off, none⟩) l.length c, .int .i64 l.length, fvQ b7] w (SymQ (keyQ S) w g off l 0 l.length) := by
  have I := fun (a b : Nat) (L : List Pt) (W : World) (hlv : Live encQ 1 W g off L) (hc : CmpQ A cA S W b7 g) (hd : ∀ x ∈ L, InR S.length x) (hl : L.length = l.length) (hab : a ≤ b) (hb : b ≤ l.length) (hx : ∀ i j, a ≤ i → i < j → j < b → (at0 L i).1 < (at0 L j).1) => (by
    have := insertQ_any A cA S b7 g off c a b L W hlv hc hd (by omega) hab (by omega) hx
    rw [hl] at this
    exact this : Calls Tryz.prog 102 #[.slice (some ⟨g, off, none⟩) l.length c, .int .i64 a, .int .i64 b, fvQ b7] W _)
  have M := fun (a m b : Nat) (L : List Pt) (W : World) (hlv : Live encQ 1 W g off L) (hc : CmpQ A cA S W b7 g) (hd : ∀ x ∈ L, InR S.length x) (hl : L.length = l.length) (h1 : a < m) (h2 : m < b) (h3 : b ≤ l.length) (s1 : Sd (ltT (keyQ S)) L a m) (s2 : Sd (ltT (keyQ S)) L m b) (hx : SepIn L a m b) => (by
    have := symMerge_any A cA S b7 g off c (b - a) a m b L W (Nat.le_refl _) hlv hc hd (by omega) h1 h2 (by omega) s1 s2 hx
    rw [hl] at this
    exact this : Calls Tryz.prog 103 #[.slice (some ⟨g, off, none⟩) l.length c, .int .i64 a, .int .i64 m, .int .i64 b, fvQ b7] W _)
  have H := Lib.hid (And.intro hL (And.intro hC (And.intro (ordR S.length (keyQ S)) (And.intro hD (And.intro I M)))))
  have HX := Lib.hid hX
  clear hL hC hD I M hX
  unfold SymQ fvQ
  obtain ⟨n, hnn⟩ : ∃ n, n = l.length := ⟨_, rfl⟩
  rw [← hnn] at hn ⊢
  have HN := Lib.hid hnn
  clear hnn
  go_enter Tryz.func80, Tryz.ntmps80
  go_wp2_with fail
  go_loopg [7, 8] n (fun gas s7 s8 wr => ∃ (t : Nat) (L : List Pt), t * 20 ≤ n ∧ n - t * 20 ≤ gas ∧ s7 = .int .i64 ((t * 20 : Nat) : Int) ∧ s8 = .int .i64 ((t * 20 + 20 : Nat) : Int) ∧ Live encQ 1 wr g off L ∧ Re l L 0 n ∧ (∀ s, s < t → Bl (ltT (keyQ S)) L 20 n s) ∧ (∀ p, t * 20 ≤ p → SepAt L p) ∧ w.grownBy wr (some g))
  case atStart => exact ⟨0, l, by omega, by omega, rfl, rfl, H.out.1, Re.refl _ _ _, fun s hs => absurd hs (by omega), fun p _ => HX.out.sep p, World.grownBy.refl _ _⟩
  case round =>
    obtain ⟨t, L, htn, hgas, rfl, rfl, hlv, hre, hbl, hsp, hgr⟩ := hrel
    obtain ⟨u, rfl⟩ : ∃ u, u = wr := ⟨_, rfl⟩
    obtain ⟨A', hA⟩ : ∃ A', A' = t * 20 := ⟨_, rfl⟩
    rw [← hA] at htn hgas hsp ⊢
    obtain ⟨B, hB⟩ : ∃ B, B = A' + 20 := ⟨_, rfl⟩
    rw [← hB]
    have hAB1 : B ≤ A' + 20 := by omega
    have hAB2 : A' + 20 ≤ B := by omega
    have hAn : A' ≤ n := by omega
    have hcm := H.out.2.1.kept hgr
    have hll : L.length = l.length := hre.len
    have hdl := hre.allD H.out.2.2.2.1
    have hln : L.length = n := by rw [hll, ← HN.out]
    have hasc : ∀ b, b ≤ n → ∀ i j, A' ≤ i → i < j → j < b → (at0 L i).1 < (at0 L j).1 := fun b hb i j q1 q2 q3 => hsp j (by omega) i j q2 (Nat.le_refl _) (by omega)
    by_cases hlt : B ≤ n
    · have I := H.out.2.2.2.2.1 A' B L u hlv hcm hdl hll (by omega) (by rw [← HN.out]; exact hlt) (hasc B hlt)
      rw [← HN.out] at I
      unfold SymQ fvQ at I
      have fin : ∀ L', Re L L' A' B → Sd (ltT (keyQ S)) L' A' B → Re l L' 0 n ∧ (∀ s, s < t + 1 → Bl (ltT (keyQ S)) L' 20 n s) ∧ (∀ p, B ≤ p → SepAt L' p) := fun L' r1 r2 => by
        refine ⟨hre.trans (r1.mono (Nat.zero_le _) hlt), fun s hs => ?_, fun p hp => (hsp p (by omega)).re r1 (.inr hp) (by omega)⟩
        rcases Nat.lt_or_ge s t with q | q
        · have := hbl s q
          unfold Bl at this ⊢
          exact ⟨this.1.out r1 (.inl (by omega)), this.2.re r1 (.inl (by omega)) (by omega)⟩
        · obtain rfl : s = t := by omega
          unfold Bl
          rw [← hA, Nat.min_eq_left (by omega), ← hB]
          exact ⟨r2, (hsp A' (Nat.le_refl _)).re r1 (.inl (Nat.le_refl _)) (by omega)⟩
      have HS := Lib.hid (And.intro fin (And.intro hgr (And.intro hA hB)))
      have hgas2 : n - B < n - A' := by omega
      have hBn : decide ((B : Int) ≤ (n : Int)) = true := decide_eq_true (by omega)
      clear hbl hre hgr hlv hcm hdl fin hA hB hll hAB1 hAB2 hsp hasc hln
      go_wp2_with fail
      refine I.mono ?_
      rintro e w9 ⟨rfl, L', hl9, hr9, hs9, hg9⟩
      have HR := Lib.hid (And.intro hl9 (And.intro hg9 (HS.out.1 L' hr9 hs9)))
      clear I hl9 hg9 hr9 hs9
      go_wp2_with fail
      go_roundg (n - B)
      case measure => have := HS.out.2.2.2; omega
      case rel => exact ⟨t + 1, L', by have := HS.out.2.2; omega, by have := HS.out.2.2; omega, (by have := HS.out.2.2; congr 1; omega), (by have := HS.out.2.2; congr 1; omega), HR.out.1, HR.out.2.2.1, HR.out.2.2.2.1, fun p hp => HR.out.2.2.2.2 p (by have := HS.out.2.2; omega), HS.out.2.1.trans HR.out.2.1⟩
    · have I := H.out.2.2.2.2.1 A' n L u hlv hcm hdl hll (by omega) (by rw [HN.out]; exact Nat.le_refl _) (hasc n (Nat.le_refl _))
      rw [← HN.out] at I
      unfold SymQ fvQ at I
      have fin : ∀ L', Re L L' A' n → Sd (ltT (keyQ S)) L' A' n → Re l L' 0 n ∧ ∀ s, Bl (ltT (keyQ S)) L' 20 n s := fun L' r1 r2 => by
        refine ⟨hre.trans (r1.mono (Nat.zero_le _) (Nat.le_refl _)), fun s => ?_⟩
        rcases Nat.lt_trichotomy s t with q | q | q
        · have := hbl s q
          unfold Bl at this ⊢
          exact ⟨this.1.out r1 (.inl (by omega)), this.2.re r1 (.inl (by omega)) (by omega)⟩
        · subst q
          unfold Bl
          rw [← hA, Nat.min_eq_right (by omega)]
          exact ⟨r2, (hsp A' (Nat.le_refl _)).re r1 (.inl (Nat.le_refl _)) (by omega)⟩
        · exact bl_none (by omega) (by rw [r1.len]; omega)
      have HF := Lib.hid (And.intro fin hgr)
      have hBn : decide ((B : Int) ≤ (n : Int)) = false := decide_eq_false (by omega)
      clear hbl hre hgr hlv hcm hdl fin hA hB hll hAB1 hAB2 hsp hasc hln
      go_wp2_with fail
      refine I.mono ?_
      rintro e w9 ⟨rfl, L', hl9, hr9, hs9, hg9⟩
      have HR := Lib.hid (And.intro hl9 (HF.out.2.trans hg9))
      have HS := Lib.hid (And.intro (HF.out.1 L' hr9 hs9).2 (And.intro (HF.out.1 L' hr9 hs9).1 trivial))
      clear I hl9 hg9 hr9 hs9 HF
      go_wp2_with fail
      go_loopg [6, 7, 8] n (fun gas s6 s7 s8 wr => ∃ (bs : Nat) (L : List Pt), 20 ≤ bs ∧ bs ≤ 2 * n + 20 ∧ n - bs ≤ gas ∧ s6 = .int .i64 (bs : Int) ∧ Live encQ 1 wr g off L ∧ Re l L 0 n ∧ (∀ s, Bl (ltT (keyQ S)) L bs n s) ∧ w.grownBy wr (some g))
      case atStart => exact ⟨20, _, by omega, by omega, by omega, rfl, HR.out.1, HS.out.2.1, HS.out.1, HR.out.2⟩
      case round =>
        clear HS HR
        obtain ⟨bs, L, hb20, hb2, hgas, rfl, hlv, hre, hbl, hgr⟩ := hrel
        obtain ⟨u, rfl⟩ : ∃ u, u = wr := ⟨_, rfl⟩
        have HB := Lib.hid (And.intro hlv (And.intro hre (And.intro hbl hgr)))
        clear hlv hre hbl hgr
        by_cases hlt : bs < n
        · obtain ⟨b2, hb2d⟩ : ∃ b2, b2 = 2 * bs := ⟨_, rfl⟩
          have hbu1 : b2 ≤ 2 * bs := by omega
          have hbu2 : 2 * bs ≤ b2 := by omega
          have HB2 := Lib.hid hb2d
          have e1 : 2 * (bs : Int) = (b2 : Int) := by omega
          have e2 : (bs : Int) * 2 = (b2 : Int) := by omega
          have wb : IntKind.i64.wrap (b2 : Int) = (b2 : Int) := IntWalk.i64_in _ (by omega)
          clear hb2d
          go_wp2_with fail
          go_loopg [7, 8] n (fun gas s7 s8 wr => ∃ (t : Nat) (L : List Pt), t * b2 ≤ n ∧ n - t * b2 ≤ gas ∧ s7 = .int .i64 ((t * b2 : Nat) : Int) ∧ s8 = .int .i64 ((t * b2 + b2 : Nat) : Int) ∧ Live encQ 1 wr g off L ∧ Re l L 0 n ∧ (∀ s, s < t → Bl (ltT (keyQ S)) L b2 n s) ∧ (∀ s, 2 * t ≤ s → Bl (ltT (keyQ S)) L bs n s) ∧ w.grownBy wr (some g))
          case atStart => exact ⟨0, L, by omega, by omega, (by first | rfl | simp), (by first | rfl | simp), HB.out.1, HB.out.2.1, fun s hs => absurd hs (by omega), fun s _ => HB.out.2.2.1 s, HB.out.2.2.2⟩
          case round =>
            clear HB
            obtain ⟨t, L, htn, hgas3, rfl, rfl, hlv, hre, hbl, hbl2, hgr⟩ := hrel
            obtain ⟨u, rfl⟩ : ∃ u, u = wr := ⟨_, rfl⟩
            have d0 : (2 * t) * bs = t * b2 := by rw [HB2.out]; exact bl_two (lt := ltT (keyQ S)) (L := L) (n := n)
            have d1 : (2 * t + 1) * bs = t * b2 + bs := by rw [Nat.succ_mul, d0]
            have d2 : (t + 1) * b2 = t * b2 + b2 := Nat.succ_mul _ _
            have S0 := hbl2 (2 * t) (Nat.le_refl _)
            have S1 := hbl2 (2 * t + 1) (by omega)
            unfold Bl at S0 S1
            rw [d0] at S0
            rw [d1] at S1
            obtain ⟨A, hA⟩ : ∃ A, A = t * b2 := ⟨_, rfl⟩
            rw [← hA] at d0 d1 d2 S0 S1 htn hgas3 ⊢
            obtain ⟨B, hB⟩ : ∃ B, B = A + b2 := ⟨_, rfl⟩
            rw [← hB]
            obtain ⟨m, hm⟩ : ∃ m, m = A + bs := ⟨_, rfl⟩
            have e3 : (A : Int) + (bs : Int) = (m : Int) := by omega
            have hmu1 : m ≤ A + bs := by omega
            have hmu2 : A + bs ≤ m := by omega
            have hBu1 : B ≤ A + b2 := by omega
            have hBu2 : A + b2 ≤ B := by omega
            rw [← hm] at S0 S1 d1
            have hcm := H.out.2.1.kept hgr
            have hll : L.length = l.length := hre.len
            have hdl := hre.allD H.out.2.2.2.1
            have old : ∀ {L' : List Pt} {b : Nat}, Re L L' A b → b ≤ L.length → ∀ s, s < t → Bl (ltT (keyQ S)) L' b2 n s := fun {L' b} hr hbn s hs => by
              have := hbl s hs
              have q := mul_lt_of (bs := b2) hs
              unfold Bl at this ⊢
              exact ⟨this.1.out hr (.inl (by omega)), this.2.re hr (.inl (by omega)) hbn⟩
            by_cases hBn : B ≤ n
            · rw [Nat.min_eq_left (by omega)] at S0 S1
              have I := H.out.2.2.2.2.2 A m B L u hlv hcm hdl hll (by omega) (by omega) (by rw [← HN.out]; exact hBn) S0.1 (by rw [show B = m + bs by omega]; exact S1.1) (S1.2.inn (by rw [hll, ← HN.out]; exact hBn))
              rw [← HN.out] at I
              unfold SymQ fvQ at I
              have fin : ∀ L', Re L L' A B → Sd (ltT (keyQ S)) L' A B → Re l L' 0 n ∧ (∀ s, s < t + 1 → Bl (ltT (keyQ S)) L' b2 n s) ∧ (∀ s, 2 * (t + 1) ≤ s → Bl (ltT (keyQ S)) L' bs n s) := fun L' r1 r2 => by
                refine ⟨hre.trans (r1.mono (Nat.zero_le _) hBn), fun s hs => ?_, fun s hs => ?_⟩
                · rcases Nat.lt_or_ge s t with q | q
                  · exact old r1 (by rw [hll, ← HN.out]; exact hBn) s q
                  · obtain rfl : s = t := by omega
                    unfold Bl
                    rw [← hA, ← hB, Nat.min_eq_left hBn]
                    exact ⟨r2, S0.2.re r1 (.inl (Nat.le_refl _)) (by rw [hll, ← HN.out]; exact hBn)⟩
                · have := hbl2 s (by omega)
                  have q := mul_lt_of (s := 2 * t + 1) (t := s) (bs := bs) (by omega)
                  unfold Bl at this ⊢
                  exact ⟨this.1.out r1 (.inr (by omega)), this.2.re r1 (.inr (by omega)) (by rw [hll, ← HN.out]; exact hBn)⟩
              have HF := Lib.hid (And.intro fin (And.intro hgr (And.intro hA (And.intro hB d2))))
              have hgas4 : n - B < n - A := by omega
              have hBb : B < 1000000 := by omega
              have hAb : A < 1000000 := by omega
              have hmb : m < 1000000 := by omega
              have hb2b : b2 < 1000000 := by omega
              clear hbl hbl2 hre hgr hlv hcm hdl old fin d0 d1 d2 S0 S1 hA hB hm hll
              go_wp2_with fail
              refine I.mono ?_
              rintro e w9 ⟨rfl, L', hl9, hr1, hs1, hg9⟩
              have HR := Lib.hid (And.intro hl9 (And.intro (HF.out.1 L' hr1 hs1) (HF.out.2.1.trans hg9)))
              clear I hl9 hg9 hr1 hs1
              go_wp2_with fail
              go_roundg (n - B)
              case measure => omega
              case rel =>
                have q := HF.out.2.2
                exact ⟨t + 1, L', by omega, by omega, (by congr 1; omega), (by first | (congr 1; omega) | (simp; omega)), HR.out.1, HR.out.2.1.1, HR.out.2.1.2.1, HR.out.2.1.2.2, HR.out.2.2⟩
            · by_cases hmn : m < n
              · rw [Nat.min_eq_left (by omega)] at S0
                rw [Nat.min_eq_right (by omega)] at S1
                have I := H.out.2.2.2.2.2 A m n L u hlv hcm hdl hll (by omega) hmn (by rw [← HN.out]; exact Nat.le_refl _) S0.1 S1.1 (S1.2.inn (by rw [hll, ← HN.out]; exact Nat.le_refl _))
                rw [← HN.out] at I
                unfold SymQ fvQ at I
                have fin : ∀ L', Re L L' A n → Sd (ltT (keyQ S)) L' A n → Re l L' 0 n ∧ (∀ s, Bl (ltT (keyQ S)) L' b2 n s) := fun L' r1 r2 => by
                  refine ⟨hre.trans (r1.mono (Nat.zero_le _) (Nat.le_refl _)), fun s => ?_⟩
                  rcases Nat.lt_trichotomy s t with q | q | q
                  · exact old r1 (by rw [hll, ← HN.out]; exact Nat.le_refl _) s q
                  · subst q
                    unfold Bl
                    rw [← hA, ← hB, Nat.min_eq_right (by omega)]
                    exact ⟨r2, S0.2.re r1 (.inl (Nat.le_refl _)) (by rw [hll, ← HN.out]; exact Nat.le_refl _)⟩
                  · have := mul_lt_of (bs := b2) q
                    exact bl_none (by omega) (by rw [r1.len, hll, ← HN.out]; exact Nat.le_refl _)
                have HF := Lib.hid (And.intro fin (And.intro hgr trivial))
                have hAb : A < 1000000 := by omega
                have hBb : B < 1000000 := by omega
                have hBB : decide ((B : Int) ≤ (n : Int)) = false := decide_eq_false (by omega)
                clear hbl hbl2 hre hgr hlv hcm hdl old fin d0 d1 d2 S0 S1 hA hB hm hll
                go_wp2_with fail
                refine I.mono ?_
                rintro e w9 ⟨rfl, L', hl9, hr1, hs1, hg9⟩
                have HR := Lib.hid (And.intro hl9 (And.intro (HF.out.1 L' hr1 hs1) (HF.out.2.1.trans hg9)))
                clear I hl9 hg9 hr1 hs1
                go_wp2_with fail
                go_roundg (n - b2)
                case measure => omega
                case rel => exact ⟨b2, L', by omega, by omega, Nat.le_refl _, (by first | rfl | simp [e2]), HR.out.1, HR.out.2.1.1, HR.out.2.1.2, HR.out.2.2⟩
              · rw [Nat.min_eq_right (by omega)] at S0
                have fin : Re l L 0 n ∧ (∀ s, Bl (ltT (keyQ S)) L b2 n s) := by
                  refine ⟨hre, fun s => ?_⟩
                  rcases Nat.lt_trichotomy s t with q | q | q
                  · exact hbl s q
                  · subst q
                    unfold Bl
                    rw [← hA, ← hB, Nat.min_eq_right (by omega)]
                    exact S0
                  · have := mul_lt_of (bs := b2) q
                    exact bl_none (by omega) (by rw [hll, ← HN.out]; exact Nat.le_refl _)
                have HR := Lib.hid (And.intro hlv (And.intro fin hgr))
                have hAb : A < 1000000 := by omega
                have hBb : B < 1000000 := by omega
                have hBB : decide ((B : Int) ≤ (n : Int)) = false := decide_eq_false (by omega)
                clear hbl hbl2 hre hgr hlv hcm hdl old fin d0 d1 d2 S0 S1 hA hB hm hll
                go_wp2_with fail
                go_roundg (n - b2)
                case measure => omega
                case rel => exact ⟨b2, L, by omega, by omega, Nat.le_refl _, (by first | rfl | simp [e2]), HR.out.1, HR.out.2.1.1, HR.out.2.1.2, HR.out.2.2⟩
        · have hs : Sd (ltT (keyQ S)) L 0 n := by
            have := HB.out.2.2.1 0
            unfold Bl at this
            rw [Nat.zero_mul, Nat.min_eq_right (by omega)] at this
            exact this.1
          have HS := Lib.hid hs
          clear hs
          go_wp2_with fail
          go_end0
          exact ⟨rfl, L, HB.out.1, HB.out.2.1, HS.out, HB.out.2.2.2⟩
set_option maxRecDepth 100000 in
set_option maxHeartbeats 4000000 in
theorem stable_any (A : Option Addr) (cA : Nat) (S : List SegP) (b7 g off c : Nat) (l : List Pt) (w : World) (hL : Live encQ 1 w g off l) (hC : CmpQ A cA S w b7 g) (hD : ∀ x ∈ l, InR S.length x) (hn : l.length ≤ 100000) (hX : Asc l) :
    Calls Tryz.prog 35 #[.slice (some ⟨g, off, none⟩) l.length c, fvQ b7] w (SymQ (keyQ S) w g off l 0 l.length) := by
  have I := stableC_any A cA S b7 g off c l w hL hC hD hn hX
  unfold SymQ fvQ at *
  go_enter Tryz.func35, Tryz.ntmps35
  go_wp2_with fail
  refine I.mono ?_
  rintro e w' ⟨rfl, l', hl, hr, hs, hg⟩
  have HR := Lib.hid (And.intro hl (And.intro hr (And.intro hs hg)))
  clear hl hr hs hg I
  go_wp2_with fail
  go_end0
  exact ⟨rfl, l', HR.out.1, HR.out.2.1, HR.out.2.2.1, HR.out.2.2.2⟩
end Go.Proofs.YtkpnffokjpgalaaGreat
