/- Layer 15: symMerge of the standard library's stable sort puts two sorted ranges in order. -/
import Derived.Test.YtbienlhofkfdpaaMinkS3
import Derived.Deep.CutBlock
import Derived.Deep.DeepCutAuto
import Derived.Deep.CutRange
namespace Go.Proofs.Ytbienlhofkfdpaa
open Go.RowKit Go.Sort
set_option linter.unusedVariables false
set_option linter.unusedSimpArgs false
attribute [local go_sem ↓] Go.wp_at_zero Go.wp_at_succ

def fvE (b7 : Nat) : Value := .func (.func 59) #[] #[.pointer (some ⟨b7, 0, none⟩)]
def SymRes (w : World) (g off : Nat) (l : List Pt) (a b : Nat) (e : Ending) (w' : World) : Prop := e = .returned (.tuple #[]) ∧ ∃ l', Live encV 2 w' g off l' ∧ Re l l' a b ∧ Sd (ltOf ecmp) l' a b ∧ w.grownBy w' (some g)
set_option maxRecDepth 100000 in
set_option maxHeartbeats 8000000 in
theorem symRec_any {D : Pt → Prop} (hO : OrdOn D (ltOf ecmp)) (b7 g off c a m b : Nat) (l : List (Int × Int)) (w : World)
    (IH : ∀ a' m' b' (l' : List Pt) (w' : World), b' - a' < b - a → Live encV 2 w' g off l' → CmpAt w' b7 g → (∀ x ∈ l', D x) → l'.length ≤ 100000 → a' < m' → m' < b' → b' ≤ l'.length → Sd (ltOf ecmp) l' a' m' → Sd (ltOf ecmp) l' m' b' → Calls Try.prog 115 #[.slice (some ⟨g, off, none⟩) l'.length c, .int .i64 a', .int .i64 m', .int .i64 b', fvE b7] w' (SymRes w' g off l' a' b'))
    (hL : Live encV 2 w g off l) (hC : CmpAt w b7 g) (hD : ∀ x ∈ l, D x) (hn : l.length ≤ 100000) (h1 : a + 1 < m) (h2 : m + 1 < b) (h3 : b ≤ l.length) (hs1 : Sd (ltOf ecmp) l a m) (hs2 : Sd (ltOf ecmp) l m b) :
    Calls Try.prog 115 #[.slice (some ⟨g, off, none⟩) l.length c, .int .i64 a, .int .i64 m, .int .i64 b, fvE b7] w (SymRes w g off l a b) := by
  have H := Lib.hid (And.intro hL (And.intro hC (And.intro hO (And.intro hD (And.intro hs1 (And.intro hs2 IH))))))
  clear hL hC hD hs1 hs2 hO IH
  unfold SymRes fvE
  obtain ⟨d, hd⟩ : ∃ d, d = m - a := ⟨_, rfl⟩
  have e0 : (m : Int) - (a : Int) = (d : Int) := by omega
  have g0 : ((d : Int) == 1) = false := by simp; omega
  obtain ⟨d2, hd2⟩ : ∃ d, d = b - m := ⟨_, rfl⟩
  have e1 : (b : Int) - (m : Int) = (d2 : Int) := by omega
  have g1 : ((d2 : Int) == 1) = false := by simp; omega
  obtain ⟨mid, hmid⟩ : ∃ mid, mid = (a + b) / 2 := ⟨_, rfl⟩
  have e2 : ((a : Int) + (b : Int)) / 2 = (mid : Int) := by omega
  obtain ⟨nn, hnn⟩ : ∃ nn, nn = mid + m := ⟨_, rfl⟩
  have e3 : (mid : Int) + (m : Int) = (nn : Int) := by omega
  obtain ⟨lo, hlo⟩ : ∃ lo, lo = if mid < m then nn - b else a := ⟨_, rfl⟩
  obtain ⟨hi, hhi⟩ : ∃ hi, hi = if mid < m then mid else m := ⟨_, rfl⟩
  have HLH := Lib.hid (And.intro hlo hhi)
  have HMID := Lib.hid (And.intro hmid hnn)
  have bm : a < mid ∧ mid < b ∧ nn < 300000 ∧ 0 < nn := by omega
  have blh : a ≤ lo ∧ lo ≤ hi ∧ hi ≤ m ∧ hi ≤ mid ∧ nn ≤ b + lo := by
    split at hlo <;> split at hhi <;> omega
  obtain ⟨bm1, bm2, bm3, bm4⟩ := bm
  obtain ⟨bl1, bl2, bl3, bl4, bl5⟩ := blh
  clear hd hd2 hmid hnn hlo hhi
  go_enter Try.func115, Try.ntmps115
  go_upto_if 140 with fail
  go_cut [20, 21] from 141 to 146 (fun s20 s21 wx => s20 = .int .i64 lo ∧ s21 = .int .i64 hi ∧ wx = w)
  case first =>
    by_cases q : mid < m
    · have f : decide ((mid : Int) < (m : Int)) = true := decide_eq_true (by omega)
      have f2 : (nn : Int) - (b : Int) = (lo : Int) := by have := HLH.out.1; rw [if_pos q] at this; have := HMID.out; omega
      have f3 : hi = mid := by rw [HLH.out.2, if_pos q]
      have HF := Lib.hid f3
      clear f3
      go_wp2_with fail
      go_meet
      exact ⟨by first | rfl | simp [f2], by rw [HF.out], rfl⟩
    · have f : decide ((mid : Int) < (m : Int)) = false := decide_eq_false (by omega)
      have f2 : lo = a := by rw [HLH.out.1, if_neg q]
      have f3 : hi = m := by rw [HLH.out.2, if_neg q]
      have HF := Lib.hid (And.intro f2 f3)
      clear f2 f3
      go_wp2_with fail
      go_meet
      exact ⟨by rw [HF.out.1], by rw [HF.out.2], rfl⟩
  case rest =>
    obtain ⟨rfl, rfl, hw⟩ := hcut
    have hw := hw.symm
    subst hw
    obtain ⟨p, hp⟩ : ∃ p, p = nn - 1 := ⟨_, rfl⟩
    have e4 : (nn : Int) - 1 = (p : Int) := by omega
    have HP := Lib.hid hp
    have hp2 : p + 1 = nn := by omega
    clear hp g0 g1 e0 e1
    go_wp2_with fail
    go_loopg [20, 21] m (fun gas s20 s21 wr => ∃ i j : Nat, lo ≤ i ∧ i ≤ j ∧ j ≤ hi ∧ j - i ≤ gas ∧ s20 = .int .i64 i ∧ s21 = .int .i64 j ∧ SinceOf w wr ∧ (lo < i → ltOf ecmp (at0 l (p - (i - 1))) (at0 l (i - 1)) = false) ∧ (j < hi → ltOf ecmp (at0 l (p - j)) (at0 l j) = true))
    case atStart => exact ⟨lo, hi, Nat.le_refl _, bl2, Nat.le_refl _, by omega, rfl, rfl, by (repeat (first | (with_reducible exact SinceOf.refl _) | (with_reducible assumption) | (with_reducible refine SinceOf.alloc ?_ _) | (with_reducible refine SinceOf.drew ?_) | (with_reducible refine SinceOf.drewN ?_ _) | (with_reducible refine SinceOf.later ?_ _) | (with_reducible refine SinceOf.further ?_ _) | (with_reducible refine SinceOf.setCell ?_ (by first | exact Nat.le_refl _ | (simp; done) | omega | (simp; omega)) _))), fun h => absurd h (by omega), fun h => absurd h (by omega)⟩
    case round =>
      obtain ⟨i, j, hmi, hij, hjb, hgas, rfl, rfl, ⟨z, rfl⟩, hlo, hhi⟩ := hrel
      by_cases hlt : i < j
      · obtain ⟨h, hh⟩ : ∃ h, h = (i + j) / 2 := ⟨_, rfl⟩
        have q1 : i ≤ h := by omega
        have q2 : h < j := by omega
        have e5 : ((i : Int) + (j : Int)) / 2 = (h : Int) := by omega
        obtain ⟨y, hy⟩ : ∃ y, y = p - h := ⟨_, rfl⟩
        have e6 : (p : Int) - (h : Int) = (y : Int) := by omega
        have hyl : y < l.length := by omega
        have wy : IntKind.i64.wrap (y : Int) = (y : Int) := IntWalk.i64_in _ (by omega)
        have hlv := H.out.1.of (w' := z.wd) (by (repeat (first | (with_reducible exact SinceOf.refl _) | (with_reducible assumption) | (with_reducible refine SinceOf.alloc ?_ _) | (with_reducible refine SinceOf.drew ?_) | (with_reducible refine SinceOf.drewN ?_ _) | (with_reducible refine SinceOf.later ?_ _) | (with_reducible refine SinceOf.further ?_ _) | (with_reducible refine SinceOf.setCell ?_ (by first | exact Nat.le_refl _ | (simp; done) | omega | (simp; omega)) _))))
        have hO := hlv.row.there
        have x0 := hlv.row.v0 h (by omega)
        have x1 := hlv.row.v1 h (by omega)
        have y0 := hlv.row.v0 y (by omega)
        have y1 := hlv.row.v1 y (by omega)
        rw [at0_eq' (by omega)] at x0 x1 y0 y1
        have hhl : h < l.length := by omega
        have C := fun W (hW : SinceOf z.wd W) => (H.out.2.1.of (SinceOf.trans ⟨z, rfl⟩ hW)).calls (at0 l y) (at0 l h)
        have st1 : ltOf ecmp (at0 l y) (at0 l h) = false → (lo < h + 1 → ltOf ecmp (at0 l (p - (h + 1 - 1))) (at0 l (h + 1 - 1)) = false) := fun e _ => by
          rw [Nat.add_sub_cancel, ← hy]; exact e
        have st2 : ltOf ecmp (at0 l y) (at0 l h) = true → (h < hi → ltOf ecmp (at0 l (p - h)) (at0 l h) = true) := fun e _ => by
          rw [← hy]; exact e
        rw [ltOf_ecmp (at0 l y) (at0 l h)] at st1 st2
        have HL := Lib.hid (And.intro hlo (And.intro hhi (And.intro st1 st2)))
        clear hlo hhi st1 st2 hlv hh hy
        obtain ⟨⟨px, py⟩, hp⟩ : ∃ p, p = at0 l h := ⟨_, rfl⟩
        obtain ⟨⟨qx, qy⟩, hq⟩ : ∃ q, q = at0 l y := ⟨_, rfl⟩
        obtain ⟨v, hv⟩ : ∃ v, v = ecmp (at0 l y) (at0 l h) := ⟨_, rfl⟩
        rw [← hv] at C HL
        rw [← hp, ← hq] at C
        rw [← hp] at x0 x1
        rw [← hq] at y0 y1
        simp only at x0 x1 y0 y1 C
        clear hp hq hv
        obtain ⟨bv, hbv⟩ : ∃ bv, bv = decide (v < 0) := ⟨_, rfl⟩
        have gv : decide (v < 0) = bv := hbv.symm
        rw [gv] at HL
        clear hbv
        go_upto_region 35 with fail
        go_cut [171] from 158 to 171 (fun s171 wx => s171 = .bool (!bv) ∧ SinceOf z.wd wx)
        case first =>
          go_region_held3 (fun w' => w'.cell? ⟨g, off + h * 2, none⟩ = some (.int .i64 px) ∧ w'.cell? ⟨g, off + h * 2 + 1, none⟩ = some (.int .i64 py) ∧ w'.cell? ⟨g, off + y * 2, none⟩ = some (.int .i64 qx) ∧ w'.cell? ⟨g, off + y * 2 + 1, none⟩ = some (.int .i64 qy)) ((simp [go_sem, *]))
            ((go_at_call 59; (with_reducible refine (C _ (by (repeat (first | (with_reducible exact SinceOf.refl _) | (with_reducible assumption) | (with_reducible refine SinceOf.alloc ?_ _) | (with_reducible refine SinceOf.drew ?_) | (with_reducible refine SinceOf.drewN ?_ _) | (with_reducible refine SinceOf.later ?_ _) | (with_reducible refine SinceOf.further ?_ _) | (with_reducible refine SinceOf.setCell ?_ (by first | exact Nat.le_refl _ | (simp; done) | omega | (simp; omega)) _))))).calls.mono ?_); rintro e _ ⟨rfl, y1, rfl⟩))
          all_goals
            go_wp2_with fail
            go_meet
            exact ⟨by simp [gv], by (repeat (first | (with_reducible exact SinceOf.refl _) | (with_reducible assumption) | (with_reducible refine SinceOf.alloc ?_ _) | (with_reducible refine SinceOf.drew ?_) | (with_reducible refine SinceOf.drewN ?_ _) | (with_reducible refine SinceOf.later ?_ _) | (with_reducible refine SinceOf.further ?_ _) | (with_reducible refine SinceOf.setCell ?_ (by first | exact Nat.le_refl _ | (simp; done) | omega | (simp; omega)) _)))⟩
        case rest =>
          obtain ⟨rfl, ⟨z2, rfl⟩⟩ := hcut
          clear C x0 x1 y0 y1
          cases bv
          · go_wp2_with fail
            go_roundg (j - (h + 1))
            case measure => omega
            case rel => exact ⟨h + 1, j, by omega, by omega, hjb, Nat.le_refl _, by go_num, rfl, by (repeat (first | (with_reducible exact SinceOf.refl _) | (with_reducible assumption) | (with_reducible refine SinceOf.alloc ?_ _) | (with_reducible refine SinceOf.drew ?_) | (with_reducible refine SinceOf.drewN ?_ _) | (with_reducible refine SinceOf.later ?_ _) | (with_reducible refine SinceOf.further ?_ _) | (with_reducible refine SinceOf.setCell ?_ (by first | exact Nat.le_refl _ | (simp; done) | omega | (simp; omega)) _))), HL.out.2.2.1 (by first | rfl | trivial), HL.out.2.1⟩
          · go_wp2_with fail
            go_roundg (h - i)
            case measure => omega
            case rel => exact ⟨i, h, hmi, q1, by omega, Nat.le_refl _, rfl, rfl, by (repeat (first | (with_reducible exact SinceOf.refl _) | (with_reducible assumption) | (with_reducible refine SinceOf.alloc ?_ _) | (with_reducible refine SinceOf.drew ?_) | (with_reducible refine SinceOf.drewN ?_ _) | (with_reducible refine SinceOf.later ?_ _) | (with_reducible refine SinceOf.further ?_ _) | (with_reducible refine SinceOf.setCell ?_ (by first | exact Nat.le_refl _ | (simp; done) | omega | (simp; omega)) _))), HL.out.1, HL.out.2.2.2 (by first | rfl | trivial)⟩
      · obtain rfl : i = j := by omega
        have CU : Cut (ltOf ecmp) l a m b i := by
          have q1 := HLH.out
          have q2 := HMID.out
          have q3 := HP.out
          rw [q3, q2.2, q2.1] at hlo hhi
          rw [q2.2, q2.1] at q1
          exact cut_of H.out.2.2.1 H.out.2.2.2.1 h3 (by omega) (by omega) H.out.2.2.2.2.1 H.out.2.2.2.2.2.1 q1 hmi hjb hlo hhi
        obtain ⟨e, he⟩ : ∃ e, e = nn - i := ⟨_, rfl⟩
        have e5 : (nn : Int) - (i : Int) = (e : Int) := by omega
        have be : mid ≤ e ∧ m ≤ e ∧ e ≤ b ∧ i ≤ mid ∧ i ≤ m := by
          have := HMID.out; omega
        obtain ⟨be1, be2, be3, be4, be5⟩ := be
        have hee : (a + b) / 2 + m - i = e := by have := HMID.out; omega
        have SO := fun (l' : List Pt) (hR : Rot l l' i m e) => CU.sorted H.out.2.2.1 H.out.2.2.2.1 h3 (show a < m by omega) (show m < b by omega) H.out.2.2.2.2.1 H.out.2.2.2.2.2.1 (l' := l') (by rw [hee]; exact hR)
        rw [hee, ← HMID.out.1] at SO
        have HS := Lib.hid SO
        clear hlo hhi CU SO he hee
        have LZ := H.out.1.of (w' := z.wd) (by (repeat (first | (with_reducible exact SinceOf.refl _) | (with_reducible assumption) | (with_reducible refine SinceOf.alloc ?_ _) | (with_reducible refine SinceOf.drew ?_) | (with_reducible refine SinceOf.drewN ?_ _) | (with_reducible refine SinceOf.later ?_ _) | (with_reducible refine SinceOf.further ?_ _) | (with_reducible refine SinceOf.setCell ?_ (by first | exact Nat.le_refl _ | (simp; done) | omega | (simp; omega)) _))))
        have GZ : w.grownBy z.wd (some g) := SinceOf.grown_any ⟨z, rfl⟩ _
        have HZ := Lib.hid (And.intro LZ GZ)
        clear LZ GZ
        go_upto_region 39 with fail
        go_cut [185] from 178 to 185 (fun s185 wx => s185 = .bool (decide (i < m) && decide (m < e)) ∧ wx = z.wd)
        case first =>
          by_cases q1 : i < m
          · have f1 : decide ((i : Int) < (m : Int)) = true := decide_eq_true (by omega)
            by_cases q2 : m < e
            · have f2 : decide ((m : Int) < (e : Int)) = true := decide_eq_true (by omega)
              go_wp2_with fail
              go_meet
              exact ⟨by simp [q1, q2], rfl⟩
            · have f2 : decide ((m : Int) < (e : Int)) = false := decide_eq_false (by omega)
              go_wp2_with fail
              go_meet
              exact ⟨by simp [q1, q2], rfl⟩
          · have f1 : decide ((i : Int) < (m : Int)) = false := decide_eq_false (by omega)
            go_wp2_with fail
            go_meet
            exact ⟨by simp [q1], rfl⟩
        case rest =>
          obtain ⟨rfl, rfl⟩ := hcut
          obtain ⟨t1, ht1⟩ : ∃ t1, t1 = (decide (i < m) && decide (m < e)) := ⟨_, rfl⟩
          rw [← ht1]
          have HT1 := Lib.hid ht1
          clear ht1
          go_upto_if 185 with fail
          go_cut [] from 186 to 191 (fun wx => ∃ l1, Live encV 2 wx g off l1 ∧ Rot l l1 i m e ∧ Re l l1 i e ∧ w.grownBy wx (some g))
          case first =>
            cases t1
            · have q := HT1.out
              simp at q
              go_wp2_with fail
              go_meet
              exact ⟨l, HZ.out.1, Rot.none ⟨be5, be2⟩ (by omega), Re.refl _ _ _, HZ.out.2⟩
            · have q := HT1.out
              simp at q
              have RO := rotate_any g off c i m e l z.wd (fvE b7) HZ.out.1 hn q.1 q.2 (by omega)
              unfold fvE at RO
              clear q
              go_wp2_with fail
              refine RO.mono ?_
              rintro e9 w9 ⟨rfl, l1, hl1, hr1, hr2, hg1⟩
              have HR := Lib.hid (And.intro hl1 (And.intro hr1 (And.intro hr2 hg1)))
              clear RO hl1 hr1 hr2 hg1
              go_wp2_with fail
              go_meet
              exact ⟨l1, HR.out.1, HR.out.2.1, HR.out.2.2.1, HZ.out.2.trans HR.out.2.2.2⟩
          case rest =>
            obtain ⟨l1, hl1, hr1, hr2, hg1⟩ := hcut
            obtain ⟨u1, rfl⟩ : ∃ u, u = wc := ⟨_, rfl⟩
            have S1 := HS.out l1 hr1
            have hd1 := hr2.allD H.out.2.2.2.1
            have hln1 := hr2.len
            have H1 := Lib.hid (And.intro hl1 (And.intro (hr2.mono (show a ≤ i by omega) be3) (And.intro hg1 (And.intro hd1 (And.intro hln1 (H.out.2.1.kept hg1))))))
            have HS1 := Lib.hid S1
            clear hl1 hr1 hr2 hg1 S1 hd1 hln1 HS HT1 HZ
            go_upto_region 41 with fail
            go_cut [199] from 192 to 199 (fun s199 wx => s199 = .bool (decide (a < i) && decide (i < mid)) ∧ wx = u1)
            case first =>
              by_cases q1 : a < i
              · have f1 : decide ((a : Int) < (i : Int)) = true := decide_eq_true (by omega)
                by_cases q2 : i < mid
                · have f2 : decide ((i : Int) < (mid : Int)) = true := decide_eq_true (by omega)
                  go_wp2_with fail
                  go_meet
                  exact ⟨by simp [q1, q2], rfl⟩
                · have f2 : decide ((i : Int) < (mid : Int)) = false := decide_eq_false (by omega)
                  go_wp2_with fail
                  go_meet
                  exact ⟨by simp [q1, q2], rfl⟩
              · have f1 : decide ((a : Int) < (i : Int)) = false := decide_eq_false (by omega)
                go_wp2_with fail
                go_meet
                exact ⟨by simp [q1], rfl⟩
            case rest =>
              obtain ⟨rfl, rfl⟩ := hcut
              obtain ⟨t2, ht2⟩ : ∃ t, t = (decide (a < i) && decide (i < mid)) := ⟨_, rfl⟩
              rw [← ht2]
              have HT2 := Lib.hid ht2
              clear ht2
              go_upto_if 199 with fail
              go_cut [] from 200 to 205 (fun wx => ∃ l2, Live encV 2 wx g off l2 ∧ Re l1 l2 a mid ∧ Sd (ltOf ecmp) l2 a mid ∧ w.grownBy wx (some g))
              case first =>
                cases t2
                · have q := HT2.out
                  simp at q
                  have hsd : Sd (ltOf ecmp) l1 a mid := by
                    by_cases q1 : a < i
                    · have := q q1
                      obtain rfl : i = mid := by omega
                      exact HS1.out.1
                    · obtain rfl : a = i := by omega
                      exact HS1.out.2.1
                  have HQ := Lib.hid hsd
                  clear q hsd
                  go_wp2_with fail
                  go_meet
                  exact ⟨l1, H1.out.1, Re.refl _ _ _, HQ.out, H1.out.2.2.1⟩
                · have q := HT2.out
                  simp at q
                  have I := H.out.2.2.2.2.2.2 a i mid l1 wc (by omega) H1.out.1 H1.out.2.2.2.2.2 H1.out.2.2.2.1 (by rw [H1.out.2.2.2.2.1]; exact hn) q.1 q.2 (by rw [H1.out.2.2.2.2.1]; omega) HS1.out.1 HS1.out.2.1
                  rw [H1.out.2.2.2.2.1] at I
                  unfold fvE at I
                  clear q
                  go_wp2_with fail
                  refine I.mono ?_
                  rintro e9 w9 ⟨rfl, l2, hl2, hr2, hs2, hg2⟩
                  have HR := Lib.hid (And.intro hl2 (And.intro hr2 (And.intro hs2 hg2)))
                  clear I hl2 hr2 hs2 hg2
                  go_wp2_with fail
                  go_meet
                  exact ⟨l2, HR.out.1, HR.out.2.1, HR.out.2.2.1, H1.out.2.2.1.trans HR.out.2.2.2⟩
              case rest =>
                obtain ⟨l2, hl2, hr2, hs2, hg2⟩ := hcut
                obtain ⟨u2, rfl⟩ : ∃ u, u = wc := ⟨_, rfl⟩
                have H2 := Lib.hid (And.intro hl2 (And.intro hr2 (And.intro hs2 (And.intro hg2 (And.intro (hr2.allD H1.out.2.2.2.1) (And.intro (hr2.len.trans H1.out.2.2.2.2.1) (H.out.2.1.kept hg2)))))))
                clear hl2 hr2 hs2 hg2 HT2
                go_upto_region 43 with fail
                go_cut [213] from 206 to 213 (fun s213 wx => s213 = .bool (decide (mid < e) && decide (e < b)) ∧ wx = u2)
                case first =>
                  by_cases q1 : mid < e
                  · have f1 : decide ((mid : Int) < (e : Int)) = true := decide_eq_true (by omega)
                    by_cases q2 : e < b
                    · have f2 : decide ((e : Int) < (b : Int)) = true := decide_eq_true (by omega)
                      go_wp2_with fail
                      go_meet
                      exact ⟨by simp [q1, q2], rfl⟩
                    · have f2 : decide ((e : Int) < (b : Int)) = false := decide_eq_false (by omega)
                      go_wp2_with fail
                      go_meet
                      exact ⟨by simp [q1, q2], rfl⟩
                  · have f1 : decide ((mid : Int) < (e : Int)) = false := decide_eq_false (by omega)
                    go_wp2_with fail
                    go_meet
                    exact ⟨by simp [q1], rfl⟩
                case rest =>
                  obtain ⟨rfl, rfl⟩ := hcut
                  obtain ⟨t3, ht3⟩ : ∃ t, t = (decide (mid < e) && decide (e < b)) := ⟨_, rfl⟩
                  rw [← ht3]
                  have HT3 := Lib.hid ht3
                  clear ht3
                  have fin : ∀ l3, Re l2 l3 mid b → Sd (ltOf ecmp) l3 mid b → Re l l3 a b ∧ Sd (ltOf ecmp) l3 a b := fun l3 r3 s3 =>
                    ⟨(H1.out.2.1.trans (H2.out.2.1.mono (Nat.le_refl _) (by omega))).trans (r3.mono (by omega) (Nat.le_refl _)), sd_join H2.out.2.1 r3 (by omega) (by omega) H2.out.2.2.1 s3 HS1.out.2.2.2.2⟩
                  have HF := Lib.hid fin
                  clear fin
                  cases t3
                  · have q := HT3.out
                    simp at q
                    have hsd : Sd (ltOf ecmp) l2 mid b := by
                      by_cases q1 : mid < e
                      · have := q q1
                        obtain rfl : e = b := by omega
                        exact HS1.out.2.2.1.out H2.out.2.1 (.inr (Nat.le_refl _))
                      · obtain rfl : mid = e := by omega
                        exact HS1.out.2.2.2.1.out H2.out.2.1 (.inr (Nat.le_refl _))
                    have HQ := Lib.hid hsd
                    clear q hsd
                    go_wp2_with fail
                    go_returns
                    exact ⟨rfl, l2, H2.out.1, (HF.out l2 (Re.refl _ _ _) HQ.out).1, (HF.out l2 (Re.refl _ _ _) HQ.out).2, H2.out.2.2.2.1⟩
                  · have q := HT3.out
                    simp at q
                    have I := H.out.2.2.2.2.2.2 mid e b l2 wc (by omega) H2.out.1 H2.out.2.2.2.2.2.2 H2.out.2.2.2.2.1 (by rw [H2.out.2.2.2.2.2.1]; exact hn) q.1 q.2 (by rw [H2.out.2.2.2.2.2.1]; omega) (HS1.out.2.2.1.out H2.out.2.1 (.inr (Nat.le_refl _))) (HS1.out.2.2.2.1.out H2.out.2.1 (.inr (by omega)))
                    rw [H2.out.2.2.2.2.2.1] at I
                    unfold fvE at I
                    clear q
                    go_wp2_with fail
                    refine I.mono ?_
                    rintro e9 w9 ⟨rfl, l3, hl3, hr3, hs3, hg3⟩
                    have HR := Lib.hid (And.intro hl3 (And.intro hr3 (And.intro hs3 hg3)))
                    clear I hl3 hr3 hs3 hg3
                    go_wp2_with fail
                    go_returns
                    exact ⟨rfl, l3, HR.out.1, (HF.out l3 HR.out.2.1 HR.out.2.2.1).1, (HF.out l3 HR.out.2.1 HR.out.2.2.1).2, H2.out.2.2.2.1.trans HR.out.2.2.2⟩
/-- The whole: two sorted ranges are merged. -/
theorem symMerge_any {D : Pt → Prop} (hO : OrdOn D (ltOf ecmp)) (b7 g off c : Nat) : ∀ (k a m b : Nat) (l : List Pt) (w : World), b - a ≤ k → Live encV 2 w g off l → CmpAt w b7 g → (∀ x ∈ l, D x) → l.length ≤ 100000 → a < m → m < b → b ≤ l.length → Sd (ltOf ecmp) l a m → Sd (ltOf ecmp) l m b →
    Calls Try.prog 115 #[.slice (some ⟨g, off, none⟩) l.length c, .int .i64 a, .int .i64 m, .int .i64 b, fvE b7] w (SymRes w g off l a b)
  | 0, a, m, b, l, w, hk, _, _, _, _, h1, h2, _, _, _ => absurd hk (by omega)
  | k + 1, a, m, b, l, w, hk, hL, hC, hD, hn, h1, h2, h3, s1, s2 => by
    by_cases m1 : m = a + 1
    · subst m1
      exact symOne_any hO b7 g off c a b l w hL hC hD hn h2 h3 s2
    · by_cases b1 : b = m + 1
      · subst b1
        exact symLast_any hO b7 g off c a m l w hL hC hD hn (by omega) h3 s1
      · exact symRec_any hO b7 g off c a m b l w (fun a' m' b' l' w' hlt => symMerge_any hO b7 g off c k a' m' b' l' w' (by omega)) hL hC hD hn (by omega) (by omega) h3 s1 s2
end Go.Proofs.Ytbienlhofkfdpaa
