/- Layer 18: sort.Search at the closure of Gap; Gap of both. -/
import Derived.Test.YticmfmcflikneaaOff8
import Derived.Test.YticmfmcflikneaaOffP3
namespace Go.Proofs.Yticmfmcflikneaa
open Go.RowKit Go.Sort
set_option linter.unusedVariables false
set_option linter.unusedSimpArgs false
attribute [local go_sem ↓] Go.wp_at_zero Go.wp_at_succ

/-- The least place of n that is of a kind; n if there is none. -/
def least (p : Nat → Bool) : Nat → Nat
  | 0 => 0
  | n + 1 => if least p n < n then least p n else if p n = true then n else n + 1
theorem least_spec (p : Nat → Bool) : ∀ n, least p n ≤ n ∧ (∀ i, i < least p n → p i = false) ∧ (least p n < n → p (least p n) = true)
  | 0 => ⟨Nat.le_refl _, (by intro i hi; exact absurd hi (Nat.not_lt_zero _)), (by intro h; exact absurd h (Nat.not_lt_zero _))⟩
  | n + 1 => by
    obtain ⟨h1, h2, h3⟩ := least_spec p n
    simp only [least]
    by_cases hlt : least p n < n
    · rw [if_pos hlt]; exact ⟨by omega, h2, fun _ => h3 hlt⟩
    · have e : least p n = n := by omega
      rw [if_neg hlt]
      rw [e] at h2
      by_cases hp : p n = true
      · rw [if_pos hp]; exact ⟨by omega, h2, fun _ => hp⟩
      · rw [if_neg hp]
        refine ⟨Nat.le_refl _, fun i hi => ?_, fun h => absurd h (Nat.lt_irrefl _)⟩
        rcases Nat.lt_succ_iff_lt_or_eq.1 hi with h | rfl
        · exact h2 i h
        · simpa using hp
theorem least_is {p : Nat → Bool} {n m : Nat} (h1 : m ≤ n) (h2 : ∀ i, i < m → p i = false) (h3 : m < n → p m = true) : least p n = m := by
  obtain ⟨k1, k2, k3⟩ := least_spec p n
  rcases Nat.lt_trichotomy (least p n) m with h | h | h
  · have a := h2 _ h
    rw [k3 (by omega)] at a; cases a
  · exact h
  · have a := k2 _ h
    rw [h3 (by omega)] at a; cases a
set_option maxRecDepth 100000 in
set_option maxHeartbeats 4000000 in
theorem searchGap_any (v1 v2 : Value) (n : Nat) (p : Nat → Bool) (w : World) (hn : n ≤ 100000)
    (hf : ∀ W, SinceOf w W → ∀ i : Nat, i < n → Yields Try.prog 84 #[.int .i64 i, v1, v2] W (.bool (p i))) (hm : ∀ a b, a ≤ b → b < n → p a = true → p b = true) :
    Yields Try.prog 83 #[.int .i64 n, .func (.func 84) #[] #[v1, v2]] w (.int .i64 (least p n)) := by
  apply Yields.ret
  go_enter Try.func83, Try.ntmps83
  go_wp2_with fail
  go_loopg [5, 6] n (fun gas s5 s6 wr => ∃ i j : Nat, i ≤ j ∧ j ≤ n ∧ j - i ≤ gas ∧ s5 = .int .i64 i ∧ s6 = .int .i64 j ∧ SinceOf w wr ∧ (∀ x, x < i → p x = false) ∧ (j < n → p j = true))
  case atStart => exact ⟨0, n, by omega, by omega, by omega, rfl, rfl, by (repeat (first | (with_reducible exact SinceOf.refl _) | (with_reducible assumption) | (with_reducible refine SinceOf.alloc ?_ _) | (with_reducible refine SinceOf.drew ?_) | (with_reducible refine SinceOf.drewN ?_ _) | (with_reducible refine SinceOf.later ?_ _) | (with_reducible refine SinceOf.further ?_ _) | (with_reducible refine SinceOf.setCell ?_ (by first | exact Nat.le_refl _ | (simp; done) | omega | (simp; omega)) _))), fun x hx => by omega, fun h => absurd h (by omega)⟩
  case round =>
    obtain ⟨i, j, hij, hjn, hgas, rfl, rfl, ⟨z, rfl⟩, hlo, hhi⟩ := hrel
    by_cases hlt : i < j
    · have C := hf z.wd ⟨z, rfl⟩ ((i + j) / 2) (by omega)
      have HL := Lib.hid (And.intro hlo hhi)
      clear hlo hhi
      obtain ⟨m, hmd⟩ : ∃ m, m = (i + j) / 2 := ⟨_, rfl⟩
      have h1 : i ≤ m := by omega
      have h2 : m < j := by omega
      have e1 : ((i : Int) + (j : Int)) / 2 = (m : Int) := by omega
      rw [← hmd] at C
      have HD := Lib.hid hmd
      clear hmd
      cases hp : p m
      · rw [hp] at C
        have HP := Lib.hid hp
        clear hp
        go_wp2_with fail
        refine C.calls.mono ?_
        rintro e _ ⟨rfl, x1, rfl⟩
        go_wp2_with fail
        go_roundg (j - (m + 1))
        case measure => omega
        case rel =>
          refine ⟨m + 1, j, by omega, hjn, Nat.le_refl _, by go_num, rfl, by (repeat (first | (with_reducible exact SinceOf.refl _) | (with_reducible assumption) | (with_reducible refine SinceOf.alloc ?_ _) | (with_reducible refine SinceOf.drew ?_) | (with_reducible refine SinceOf.drewN ?_ _) | (with_reducible refine SinceOf.later ?_ _) | (with_reducible refine SinceOf.further ?_ _) | (with_reducible refine SinceOf.setCell ?_ (by first | exact Nat.le_refl _ | (simp; done) | omega | (simp; omega)) _))), fun x hx => ?_, HL.out.2⟩
          cases hpx : p x
          · rfl
          · have := hm x m (by omega) (by omega) hpx
            rw [HP.out] at this
            cases this
      · rw [hp] at C
        have HP := Lib.hid hp
        clear hp
        go_wp2_with fail
        refine C.calls.mono ?_
        rintro e _ ⟨rfl, x1, rfl⟩
        go_wp2_with fail
        go_roundg (m - i)
        case measure => omega
        case rel => exact ⟨i, m, h1, by omega, Nat.le_refl _, rfl, rfl, by (repeat (first | (with_reducible exact SinceOf.refl _) | (with_reducible assumption) | (with_reducible refine SinceOf.alloc ?_ _) | (with_reducible refine SinceOf.drew ?_) | (with_reducible refine SinceOf.drewN ?_ _) | (with_reducible refine SinceOf.later ?_ _) | (with_reducible refine SinceOf.further ?_ _) | (with_reducible refine SinceOf.setCell ?_ (by first | exact Nat.le_refl _ | (simp; done) | omega | (simp; omega)) _))), HL.out.1, fun _ => HP.out⟩
    · obtain rfl : i = j := by omega
      have HR := Lib.hid (least_is (n := n) hjn hlo hhi)
      clear hlo hhi
      go_wp2_with fail
      go_returns
      exact ⟨by rw [HR.out]; rfl, by (repeat (first | (with_reducible exact SinceOf.refl _) | (with_reducible assumption) | (with_reducible refine SinceOf.alloc ?_ _) | (with_reducible refine SinceOf.drew ?_) | (with_reducible refine SinceOf.drewN ?_ _) | (with_reducible refine SinceOf.later ?_ _) | (with_reducible refine SinceOf.further ?_ _) | (with_reducible refine SinceOf.setCell ?_ (by first | exact Nat.le_refl _ | (simp; done) | omega | (simp; omega)) _)))⟩
/-- What Gap returns. -/
noncomputable def farP (a b : List (List Pt)) (i : Nat) : Bool := !(apartV a b i).1
noncomputable def gapV (a b : List (List Pt)) (most : Int) : Int × Int :=
  if 0 ≤ most ∧ most ≤ 200 then
    if (apartV a b most).2 = 0 then (if least (farP a b) (most.toNat + 1) = 0 then (0, 8) else ((least (farP a b) (most.toNat + 1) : Int) - 1, 0))
    else (0, (apartV a b most).2)
  else (0, 2)
theorem gapV_some {a b : List (List Pt)} {most k : Int} (h2 : most ≤ 200) (hl : ∀ r ∈ a, r.length ≤ 20) (hm : (apartV a b most).2 = 0) (hk0 : 0 ≤ k) (hk : k ≤ most) (hy : (apartV a b k).1 = true) (hn : ∀ x : Int, k < x → x ≤ most → (apartV a b x).1 = false) : gapV a b most = (k, 0) := by
  have e : least (farP a b) (most.toNat + 1) = k.toNat + 1 := least_is (by omega) (fun i hi => by
    unfold farP
    rw [apart_mono (j := i) (k := k) (m := most) (by omega) (by omega) hk hl hm hy]; rfl) (fun hlt => by
    unfold farP
    rw [hn _ (by omega) (by omega)]; rfl)
  unfold gapV
  rw [if_pos ⟨by omega, h2⟩, if_pos hm, e, if_neg (by omega)]
  exact Prod.ext (by simp only; omega) rfl
theorem gapV_none {a b : List (List Pt)} {most : Int} (h0 : 0 ≤ most) (h2 : most ≤ 200) (hm : (apartV a b most).2 = 0) (hn : ∀ x : Int, 0 ≤ x → x ≤ most → (apartV a b x).1 = false) : gapV a b most = (0, 8) := by
  have e : least (farP a b) (most.toNat + 1) = 0 := least_is (by omega) (fun i hi => absurd hi (by omega)) (fun hlt => by
    unfold farP
    rw [hn _ (by omega) (by omega)]; rfl)
  unfold gapV
  rw [if_pos ⟨h0, h2⟩, if_pos hm, e, if_pos rfl]
set_option maxRecDepth 100000 in
set_option maxHeartbeats 4000000 in
theorem gapFn_any (A B : Option Addr) (c d : Nat) (X Z : List RgR) (i : Nat) (b1 b2 : Nat) (w : World) (h : IsRings w A c X) (hz : IsRings w B d Z) (hlen : X.length ≤ 1000)
    (hb : w.cell? ⟨b1, 0, none⟩ = some (.slice A X.length c)) (hb2 : w.cell? ⟨b2, 0, none⟩ = some (.slice B Z.length d)) (hi : i ≤ 100000) :
    Yields Try.prog 84 #[.int .i64 i, .pointer (some ⟨b1, 0, none⟩), .pointer (some ⟨b2, 0, none⟩)] w (.bool (farP (vxs X) (vxs Z) i)) := by
  apply Yields.ret
  have C := apart_any A B c d X Z i w h hz hlen
  unfold farP
  generalize apartV (vxs X) (vxs Z) i = ap at *
  obtain ⟨a1, a2⟩ := ap
  clear h hz
  go_enter Try.func84, Try.ntmps84
  go_wp2_with fail
  refine C.mono ?_
  rintro e _ ⟨rfl, x1, rfl⟩
  go_wp2_with fail
  go_returns
  exact ⟨by simp, by (repeat (first | (with_reducible exact SinceOf.refl _) | (with_reducible assumption) | (with_reducible refine SinceOf.alloc ?_ _) | (with_reducible refine SinceOf.drew ?_) | (with_reducible refine SinceOf.drewN ?_ _) | (with_reducible refine SinceOf.later ?_ _) | (with_reducible refine SinceOf.further ?_ _) | (with_reducible refine SinceOf.setCell ?_ (by first | exact Nat.le_refl _ | (simp; done) | omega | (simp; omega)) _)))⟩
set_option maxRecDepth 100000 in
set_option maxHeartbeats 8000000 in
theorem gap_any (A B : Option Addr) (c d : Nat) (X Z : List RgR) (k : Int) (w : World) (h : IsRings w A c X) (hz : IsRings w B d Z) (hlen : X.length ≤ 1000) (hl : ∀ x ∈ X, x.xs.length ≤ 20) :
    Calls Try.prog 50 #[.slice A X.length c, .slice B Z.length d, .int .i64 k] w fun e w' => e = .returned (.tuple #[.int .i64 (gapV (vxs X) (vxs Z) k).1, .int .i64 (gapV (vxs X) (vxs Z) k).2]) ∧ SinceOf w w' := by
  have H := Lib.hid (And.intro h hz)
  clear h hz
  have hl2 : ∀ r ∈ vxs X, r.length ≤ 20 := fun r hr => by
    obtain ⟨x, hx, rfl⟩ := List.mem_map.1 hr
    exact hl x hx
  have HL := Lib.hid hl2
  clear hl hl2
  generalize hgv : gapV (vxs X) (vxs Z) k = gv
  by_cases h1 : k < 0
  · have g1 : decide (k < 0) = true := decide_eq_true h1
    obtain rfl : gv = (0, 2) := by rw [← hgv]; unfold gapV; rw [if_neg (by omega)]
    clear hgv h1
    go_enter Try.func50, Try.ntmps50
    go_wp2_with fail
    go_returns
    exact ⟨rfl, by (repeat (first | (with_reducible exact SinceOf.refl _) | (with_reducible assumption) | (with_reducible refine SinceOf.alloc ?_ _) | (with_reducible refine SinceOf.drew ?_) | (with_reducible refine SinceOf.drewN ?_ _) | (with_reducible refine SinceOf.later ?_ _) | (with_reducible refine SinceOf.further ?_ _) | (with_reducible refine SinceOf.setCell ?_ (by first | exact Nat.le_refl _ | (simp; done) | omega | (simp; omega)) _)))⟩
  have g1 : decide (k < 0) = false := decide_eq_false h1
  by_cases h2 : 200 < k
  · have g2 : decide (200 < k) = true := decide_eq_true h2
    obtain rfl : gv = (0, 2) := by rw [← hgv]; unfold gapV; rw [if_neg (by omega)]
    clear hgv h1 h2
    go_enter Try.func50, Try.ntmps50
    go_wp2_with fail
    go_returns
    exact ⟨rfl, by (repeat (first | (with_reducible exact SinceOf.refl _) | (with_reducible assumption) | (with_reducible refine SinceOf.alloc ?_ _) | (with_reducible refine SinceOf.drew ?_) | (with_reducible refine SinceOf.drewN ?_ _) | (with_reducible refine SinceOf.later ?_ _) | (with_reducible refine SinceOf.further ?_ _) | (with_reducible refine SinceOf.setCell ?_ (by first | exact Nat.le_refl _ | (simp; done) | omega | (simp; omega)) _)))⟩
  have g2 : decide (200 < k) = false := decide_eq_false h2
  have AP := fun W (hW : SinceOf w W) => apart_any A B c d X Z k W (H.out.1.of hW) (H.out.2.of hW) hlen
  by_cases he : (apartV (vxs X) (vxs Z) k).2 = 0
  case neg =>
    obtain rfl : gv = (0, (apartV (vxs X) (vxs Z) k).2) := by rw [← hgv]; unfold gapV; rw [if_pos (by omega), if_neg he]
    clear hgv
    generalize apartV (vxs X) (vxs Z) k = ap at *
    obtain ⟨a1, a2⟩ := ap
    simp only at AP he
    have g3 : (a2 != 0) = true := by simpa using he
    clear h1 h2 he
    go_enter Try.func50, Try.ntmps50
    go_wp2_with fail
    refine (AP _ (by (repeat (first | (with_reducible exact SinceOf.refl _) | (with_reducible assumption) | (with_reducible refine SinceOf.alloc ?_ _) | (with_reducible refine SinceOf.drew ?_) | (with_reducible refine SinceOf.drewN ?_ _) | (with_reducible refine SinceOf.later ?_ _) | (with_reducible refine SinceOf.further ?_ _) | (with_reducible refine SinceOf.setCell ?_ (by first | exact Nat.le_refl _ | (simp; done) | omega | (simp; omega)) _))))).mono ?_
    rintro e _ ⟨rfl, x1, rfl⟩
    go_wp2_with fail
    go_returns
    exact ⟨rfl, by (repeat (first | (with_reducible exact SinceOf.refl _) | (with_reducible assumption) | (with_reducible refine SinceOf.alloc ?_ _) | (with_reducible refine SinceOf.drew ?_) | (with_reducible refine SinceOf.drewN ?_ _) | (with_reducible refine SinceOf.later ?_ _) | (with_reducible refine SinceOf.further ?_ _) | (with_reducible refine SinceOf.setCell ?_ (by first | exact Nat.le_refl _ | (simp; done) | omega | (simp; omega)) _)))⟩
  rw [he] at AP
  have SG := fun (b1 b2 : Nat) W (hW : SinceOf w W) (hb : W.cell? ⟨b1, 0, none⟩ = some (.slice A X.length c)) (hb2 : W.cell? ⟨b2, 0, none⟩ = some (.slice B Z.length d)) (hO1 : Nonempty (Old W b1)) (hO2 : Nonempty (Old W b2)) =>
    searchGap_any (.pointer (some ⟨b1, 0, none⟩)) (.pointer (some ⟨b2, 0, none⟩)) (k.toNat + 1) (farP (vxs X) (vxs Z)) W (by omega) (fun V hV i hi => gapFn_any A B c d X Z i b1 b2 V (H.out.1.of (hW.trans hV)) (H.out.2.of (hW.trans hV)) hlen (by obtain ⟨q, rfl⟩ := hV; rw [Since.cell]; exact hb) (by obtain ⟨q, rfl⟩ := hV; rw [Since.cell]; exact hb2) (by omega))
      (fun a b hab hb' ha => by
        unfold farP at *
        cases q : (apartV (vxs X) (vxs Z) b).1
        · rfl
        · rw [apart_mono (j := a) (k := b) (m := k) (by omega) (by omega) (by omega) HL.out he q] at ha
          exact ha)
  have hge : gv = if least (farP (vxs X) (vxs Z)) (k.toNat + 1) = 0 then (0, 8) else ((least (farP (vxs X) (vxs Z)) (k.toNat + 1) : Int) - 1, 0) := by
    rw [← hgv]; unfold gapV; rw [if_pos (by omega), if_pos he]
  have hlb := (least_spec (farP (vxs X) (vxs Z)) (k.toNat + 1)).1
  clear hgv he
  generalize (apartV (vxs X) (vxs Z) k).1 = a1 at *
  generalize least (farP (vxs X) (vxs Z)) (k.toNat + 1) = m at *
  have HS := Lib.hid SG
  obtain ⟨kn, rfl⟩ : ∃ kn : Nat, k = kn := ⟨k.toNat, by omega⟩
  have hk1 : ((kn : Int).toNat + 1) = kn + 1 := by omega
  rw [hk1] at HS hlb
  have hw1 : IntKind.i64.wrap ((kn : Int) + 1) = ((kn + 1 : Nat) : Int) := IntWalk.i64_in _ (by omega)
  have hkn : kn ≤ 200 := by omega
  clear SG h1 h2 hk1
  go_enter Try.func50, Try.ntmps50
  go_wp2_with fail
  refine (AP _ (by (repeat (first | (with_reducible exact SinceOf.refl _) | (with_reducible assumption) | (with_reducible refine SinceOf.alloc ?_ _) | (with_reducible refine SinceOf.drew ?_) | (with_reducible refine SinceOf.drewN ?_ _) | (with_reducible refine SinceOf.later ?_ _) | (with_reducible refine SinceOf.further ?_ _) | (with_reducible refine SinceOf.setCell ?_ (by first | exact Nat.le_refl _ | (simp; done) | omega | (simp; omega)) _))))).mono ?_
  rintro e _ ⟨rfl, x1, rfl⟩
  clear AP
  have hsz := x1.size
  simp only [World.size_alloc] at hsz
  go_wp2_with fail
  refine (HS.out w.heap.size (w.heap.size + 1) _ (by (repeat (first | (with_reducible exact SinceOf.refl _) | (with_reducible assumption) | (with_reducible refine SinceOf.alloc ?_ _) | (with_reducible refine SinceOf.drew ?_) | (with_reducible refine SinceOf.drewN ?_ _) | (with_reducible refine SinceOf.later ?_ _) | (with_reducible refine SinceOf.further ?_ _) | (with_reducible refine SinceOf.setCell ?_ (by first | exact Nat.le_refl _ | (simp; done) | omega | (simp; omega)) _)))) (by simp [go_sem]) (by simp [go_sem]) inferInstance inferInstance).calls.mono ?_
  rintro e _ ⟨rfl, x2, rfl⟩
  clear HS
  by_cases hm : m = 0
  · rw [if_pos hm] at hge
    subst hm hge
    go_wp2_with fail
    go_returns
    exact ⟨rfl, by (repeat (first | (with_reducible exact SinceOf.refl _) | (with_reducible assumption) | (with_reducible refine SinceOf.alloc ?_ _) | (with_reducible refine SinceOf.drew ?_) | (with_reducible refine SinceOf.drewN ?_ _) | (with_reducible refine SinceOf.later ?_ _) | (with_reducible refine SinceOf.further ?_ _) | (with_reducible refine SinceOf.setCell ?_ (by first | exact Nat.le_refl _ | (simp; done) | omega | (simp; omega)) _)))⟩
  · rw [if_neg hm] at hge
    subst hge
    have g4 : ((m : Int) == 0) = false := by simpa using hm
    have hm1 : 1 ≤ m := by omega
    have hm2 : 0 ≤ (m : Int) - 1 := by omega
    go_wp2_with fail
    go_returns
    exact ⟨rfl, by (repeat (first | (with_reducible exact SinceOf.refl _) | (with_reducible assumption) | (with_reducible refine SinceOf.alloc ?_ _) | (with_reducible refine SinceOf.drew ?_) | (with_reducible refine SinceOf.drewN ?_ _) | (with_reducible refine SinceOf.later ?_ _) | (with_reducible refine SinceOf.further ?_ _) | (with_reducible refine SinceOf.setCell ?_ (by first | exact Nat.le_refl _ | (simp; done) | omega | (simp; omega)) _)))⟩
set_option maxRecDepth 100000 in
set_option maxHeartbeats 8000000 in
theorem refGap_any (A B : Option Addr) (c d : Nat) (X Z : List RgR) (k : Int) (w : World) (h : IsRings w A c X) (hz : IsRings w B d Z) (hlen : X.length ≤ 1000) (hl : ∀ x ∈ X, x.xs.length ≤ 20) :
    Calls Try.prog 51 #[.slice A X.length c, .slice B Z.length d, .int .i64 k] w fun e w' => e = .returned (.tuple #[.int .i64 (gapV (vxs X) (vxs Z) k).1, .int .i64 (gapV (vxs X) (vxs Z) k).2]) ∧ SinceOf w w' := by
  have H := Lib.hid (And.intro h hz)
  clear h hz
  have hl2 : ∀ r ∈ vxs X, r.length ≤ 20 := fun r hr => by
    obtain ⟨x, hx, rfl⟩ := List.mem_map.1 hr
    exact hl x hx
  have HL := Lib.hid hl2
  clear hl hl2
  generalize hgv : gapV (vxs X) (vxs Z) k = gv
  by_cases h1 : k < 0
  · have g1 : decide (k < 0) = true := decide_eq_true h1
    obtain rfl : gv = (0, 2) := by rw [← hgv]; unfold gapV; rw [if_neg (by omega)]
    clear hgv h1
    go_enter Try.func51, Try.ntmps51
    go_wp2_with fail
    go_returns
    exact ⟨rfl, by (repeat (first | (with_reducible exact SinceOf.refl _) | (with_reducible assumption) | (with_reducible refine SinceOf.alloc ?_ _) | (with_reducible refine SinceOf.drew ?_) | (with_reducible refine SinceOf.drewN ?_ _) | (with_reducible refine SinceOf.later ?_ _) | (with_reducible refine SinceOf.further ?_ _) | (with_reducible refine SinceOf.setCell ?_ (by first | exact Nat.le_refl _ | (simp; done) | omega | (simp; omega)) _)))⟩
  have g1 : decide (k < 0) = false := decide_eq_false h1
  by_cases h2 : 200 < k
  · have g2 : decide (200 < k) = true := decide_eq_true h2
    obtain rfl : gv = (0, 2) := by rw [← hgv]; unfold gapV; rw [if_neg (by omega)]
    clear hgv h1 h2
    go_enter Try.func51, Try.ntmps51
    go_wp2_with fail
    go_returns
    exact ⟨rfl, by (repeat (first | (with_reducible exact SinceOf.refl _) | (with_reducible assumption) | (with_reducible refine SinceOf.alloc ?_ _) | (with_reducible refine SinceOf.drew ?_) | (with_reducible refine SinceOf.drewN ?_ _) | (with_reducible refine SinceOf.later ?_ _) | (with_reducible refine SinceOf.further ?_ _) | (with_reducible refine SinceOf.setCell ?_ (by first | exact Nat.le_refl _ | (simp; done) | omega | (simp; omega)) _)))⟩
  have g2 : decide (200 < k) = false := decide_eq_false h2
  have AP := fun (j : Int) W (hW : SinceOf w W) => refApart_any A B c d X Z j W (H.out.1.of hW) (H.out.2.of hW) hlen
  by_cases he : (apartV (vxs X) (vxs Z) k).2 = 0
  case neg =>
    obtain rfl : gv = (0, (apartV (vxs X) (vxs Z) k).2) := by rw [← hgv]; unfold gapV; rw [if_pos (by omega), if_neg he]
    clear hgv
    have AK := AP k
    clear AP
    generalize apartV (vxs X) (vxs Z) k = ap at *
    obtain ⟨a1, a2⟩ := ap
    simp only at AK he
    have g3 : (a2 != 0) = true := by simpa using he
    clear h1 h2 he
    go_enter Try.func51, Try.ntmps51
    go_wp2_with fail
    refine (AK _ (by (repeat (first | (with_reducible exact SinceOf.refl _) | (with_reducible assumption) | (with_reducible refine SinceOf.alloc ?_ _) | (with_reducible refine SinceOf.drew ?_) | (with_reducible refine SinceOf.drewN ?_ _) | (with_reducible refine SinceOf.later ?_ _) | (with_reducible refine SinceOf.further ?_ _) | (with_reducible refine SinceOf.setCell ?_ (by first | exact Nat.le_refl _ | (simp; done) | omega | (simp; omega)) _))))).mono ?_
    rintro e _ ⟨rfl, x1, rfl⟩
    go_wp2_with fail
    go_returns
    exact ⟨rfl, by (repeat (first | (with_reducible exact SinceOf.refl _) | (with_reducible assumption) | (with_reducible refine SinceOf.alloc ?_ _) | (with_reducible refine SinceOf.drew ?_) | (with_reducible refine SinceOf.drewN ?_ _) | (with_reducible refine SinceOf.later ?_ _) | (with_reducible refine SinceOf.further ?_ _) | (with_reducible refine SinceOf.setCell ?_ (by first | exact Nat.le_refl _ | (simp; done) | omega | (simp; omega)) _)))⟩
  have AK := AP k
  rw [he] at AK
  have HG := Lib.hid (And.intro hgv he)
  have hka : (apartV (vxs X) (vxs Z) k).1 = (apartV (vxs X) (vxs Z) k).1 := rfl
  clear hgv he hka
  have HAP := Lib.hid AP
  clear AP
  generalize (apartV (vxs X) (vxs Z) k).1 = a1 at *
  clear g2
  have k0 : 0 ≤ k := by omega
  have k2 : k ≤ 200 := by omega
  have g2 : decide (200 < k) = false := decide_eq_false h2
  clear h1 h2
  go_enter Try.func51, Try.ntmps51
  go_wp2_with fail
  refine (AK _ (by (repeat (first | (with_reducible exact SinceOf.refl _) | (with_reducible assumption) | (with_reducible refine SinceOf.alloc ?_ _) | (with_reducible refine SinceOf.drew ?_) | (with_reducible refine SinceOf.drewN ?_ _) | (with_reducible refine SinceOf.later ?_ _) | (with_reducible refine SinceOf.further ?_ _) | (with_reducible refine SinceOf.setCell ?_ (by first | exact Nat.le_refl _ | (simp; done) | omega | (simp; omega)) _))))).mono ?_
  rintro e _ ⟨rfl, x1, rfl⟩
  clear AK
  go_wp2_with fail
  go_loopg [10] (k + 1).toNat (fun gas s10 wr => ∃ j : Int, -1 ≤ j ∧ j ≤ k ∧ (j + 1).toNat ≤ gas ∧ s10 = .int .i64 j ∧ SinceOf x1.wd wr ∧ ∀ x : Int, j < x → x ≤ k → (apartV (vxs X) (vxs Z) x).1 = false)
  case atStart => exact ⟨k, by omega, Int.le_refl _, by omega, rfl, by (repeat (first | (with_reducible exact SinceOf.refl _) | (with_reducible assumption) | (with_reducible refine SinceOf.alloc ?_ _) | (with_reducible refine SinceOf.drew ?_) | (with_reducible refine SinceOf.drewN ?_ _) | (with_reducible refine SinceOf.later ?_ _) | (with_reducible refine SinceOf.further ?_ _) | (with_reducible refine SinceOf.setCell ?_ (by first | exact Nat.le_refl _ | (simp; done) | omega | (simp; omega)) _))), fun x h h' => by omega⟩
  case round =>
    obtain ⟨j, hj1, hjk, hgas, rfl, ⟨z, rfl⟩, hno⟩ := hrel
    by_cases hj0 : 0 ≤ j
    · have AJ := HAP.out j z.wd (by (repeat (first | (with_reducible exact SinceOf.refl _) | (with_reducible assumption) | (with_reducible refine SinceOf.alloc ?_ _) | (with_reducible refine SinceOf.drew ?_) | (with_reducible refine SinceOf.drewN ?_ _) | (with_reducible refine SinceOf.later ?_ _) | (with_reducible refine SinceOf.further ?_ _) | (with_reducible refine SinceOf.setCell ?_ (by first | exact Nat.le_refl _ | (simp; done) | omega | (simp; omega)) _))))
      cases ha : (apartV (vxs X) (vxs Z) j).1
      · rw [ha] at AJ
        have HN := Lib.hid (show ∀ x : Int, j - 1 < x → x ≤ k → (apartV (vxs X) (vxs Z) x).1 = false from fun x h h' => by
          by_cases q : x = j
          · rw [q]; exact ha
          · exact hno x (by omega) h')
        clear hno ha
        generalize (apartV (vxs X) (vxs Z) j).2 = a2 at *
        go_wp2_with fail
        refine AJ.mono ?_
        rintro e _ ⟨rfl, x2, rfl⟩
        clear AJ
        go_wp2_with fail
        go_roundg j.toNat
        case measure => omega
        case rel => exact ⟨j - 1, by omega, by omega, by omega, by go_num, by (repeat (first | (with_reducible exact SinceOf.refl _) | (with_reducible assumption) | (with_reducible refine SinceOf.alloc ?_ _) | (with_reducible refine SinceOf.drew ?_) | (with_reducible refine SinceOf.drewN ?_ _) | (with_reducible refine SinceOf.later ?_ _) | (with_reducible refine SinceOf.further ?_ _) | (with_reducible refine SinceOf.setCell ?_ (by first | exact Nat.le_refl _ | (simp; done) | omega | (simp; omega)) _))), HN.out⟩
      · rw [ha] at AJ
        have hr := gapV_some k2 HL.out HG.out.2 hj0 hjk ha hno
        rw [HG.out.1] at hr
        subst hr
        clear hno ha
        generalize (apartV (vxs X) (vxs Z) j).2 = a2 at *
        go_wp2_with fail
        refine AJ.mono ?_
        rintro e _ ⟨rfl, x2, rfl⟩
        clear AJ
        go_wp2_with fail
        go_returns
        exact ⟨rfl, by (repeat (first | (with_reducible exact SinceOf.refl _) | (with_reducible assumption) | (with_reducible refine SinceOf.alloc ?_ _) | (with_reducible refine SinceOf.drew ?_) | (with_reducible refine SinceOf.drewN ?_ _) | (with_reducible refine SinceOf.later ?_ _) | (with_reducible refine SinceOf.further ?_ _) | (with_reducible refine SinceOf.setCell ?_ (by first | exact Nat.le_refl _ | (simp; done) | omega | (simp; omega)) _)))⟩
    · have hr := gapV_none k0 k2 HG.out.2 (fun x h h' => hno x (by omega) h')
      rw [HG.out.1] at hr
      subst hr
      clear hno
      go_wp2_with fail
      go_returns
      exact ⟨rfl, by (repeat (first | (with_reducible exact SinceOf.refl _) | (with_reducible assumption) | (with_reducible refine SinceOf.alloc ?_ _) | (with_reducible refine SinceOf.drew ?_) | (with_reducible refine SinceOf.drewN ?_ _) | (with_reducible refine SinceOf.later ?_ _) | (with_reducible refine SinceOf.further ?_ _) | (with_reducible refine SinceOf.setCell ?_ (by first | exact Nat.le_refl _ | (simp; done) | omega | (simp; omega)) _)))⟩
end Go.Proofs.Yticmfmcflikneaa
