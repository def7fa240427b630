/- Layer 52 (the reference): Best. -/
import Derived.Test.YtdcncalcncomoaaSch53
import Derived.Test.YtdcncalcncomoaaSchP4
namespace Go.Proofs.Ytdcncalcncomoaa
open Go.RowKit Go.Sort
set_option linter.unusedVariables false
attribute [local go_sem ↓] Go.wp_at_zero Go.wp_at_succ

theorem good_nil (s : ShopR) (L : List JobR) : GoodS s L [] := ⟨(fun x hx => by cases hx), (by simp), (fun x hx => by cases hx)⟩
theorem place_good {s : ShopR} {L : List JobR} (hc : checkS s L = true) : ∀ (o : List Int) (l : List SlotR), GoodS s L l → (∀ x ∈ o, 0 ≤ x ∧ x < L.length) → GoodS s L (placeAll s L l o)
  | [], l, h, _ => h
  | j :: o, l, h, hr => by
    rw [place_cons]
    refine place_good hc o _ ?_ fun x hx => hr x (by simp [hx])
    obtain ⟨h0, h1⟩ := hr j (by simp)
    obtain ⟨q, rfl⟩ : ∃ q : Nat, j = q := ⟨j.toNat, by omega⟩
    have hq : q < L.length := by omega
    have hrel := (job_parts (check_job hc (List.getElem_mem hq))).2.2.2.2.1.1
    rw [← jobAt_at hq] at hrel
    unfold placeV
    cases hx : dispatchV s L l q with
    | none => exact h
    | some x => exact validV_good.1 (dispatch_valid hrel hx)
theorem place_length (s : ShopR) (L : List JobR) : ∀ (o : List Int) (l : List SlotR), (placeAll s L l o).length ≤ l.length + o.length
  | [], l => by simp [placeAll]
  | j :: o, l => by
    rw [place_cons]
    have := place_length s L o (placeV s L l j)
    have h2 : (placeV s L l j).length ≤ l.length + 1 := by unfold placeV; cases dispatchV s L l j <;> simp
    rw [List.length_cons]
    omega
theorem any_due {s : ShopR} {L : List JobR} (h : checkS s L = true) : ∀ j ∈ L, 0 ≤ j.due ∧ j.due ≤ 1000000 := fun j hj => (job_parts (check_job h hj)).2.2.2.2.2.1
theorem chain_head {o : List Int} {r : List (List Int)} (h : chainB (o :: r) = true) : (r = [] ∧ followV o = none) ∨ ∃ p q, r = p :: q ∧ followV o = some p ∧ chainB (p :: q) = true := by
  cases r with
  | nil => left; exact ⟨rfl, by unfold chainB at h; simpa using h⟩
  | cons p q =>
    right
    unfold chainB at h
    rw [Bool.and_eq_true, beq_iff_eq] at h
    exact ⟨p, q, rfl, h.1, h.2⟩
/-- A list of slots of whatever best there is. -/
def slotsB (b : BestR) : List SlotR := (b.getD ([], [])).2
def orderB (b : BestR) : List Int := (b.getD ([], [])).1
theorem best_cons (s : ShopR) (L : List JobR) (b : BestR) (o : List Int) (r : List (List Int)) : bestOver s L b (o :: r) = bestOver s L (bestStep L b (o, placeAll s L [] o)) r := rfl
theorem range_succI (k : Nat) : rangeI (k + 1) = rangeI k ++ [(k : Int)] := by unfold rangeI; rw [List.range_succ, List.map_append]; rfl
theorem range_lenI (k : Nat) : (rangeI k).length = k := by unfold rangeI; simp
set_option maxRecDepth 100000 in
set_option maxHeartbeats 16000000 in
theorem refBest_any (s : ShopR) (A : Option Addr) (c : Nat) (L : List JobR) (w : World) (hs : IsShop w s) (h : IsJobs w A c L) (hn : L.length ≤ 4 ∨ 6 < L.length) :
    Calls Try.prog 17 #[shopV s, .slice A L.length c] w fun e w' => ∃ (C : Option Addr) (d : Nat) (B : Option Addr) (b : Nat), e = .returned (.tuple #[.slice C (bestV s L).1.length d, .slice B (bestV s L).2.1.length b, .int .i64 (bestV s L).2.2]) ∧ IsInts w' C d (bestV s L).1 ∧ IsSlots w' B b (bestV s L).2.1 ∧ SinceOf w w' := by
  have CH := fun W hW => refCheck52_any s A c L W (hs.of hW) (h.of hW)
  rw [refCheck_eq] at CH
  have hjl := h.len
  obtain ⟨res, hres⟩ : ∃ v, v = bestV s L := ⟨_, rfl⟩
  rw [← hres]
  unfold bestV at hres
  cases hc : checkS s L
  · rw [hc, if_neg (by simp)] at hres
    rw [hc] at CH
    subst hres
    obtain ⟨sA, sc, cals, sB, sd, R, most⟩ := s
    clear hs h hc hn
    go_enter Try.func17, Try.ntmps17
    go_wp2_with fail
    refine (CH _ (by (repeat (first | (with_reducible exact SinceOf.refl _) | (with_reducible assumption) | (with_reducible refine SinceOf.alloc ?_ _) | (with_reducible refine SinceOf.drew ?_) | (with_reducible refine SinceOf.drewN ?_ _) | (with_reducible refine SinceOf.later ?_ _) | (with_reducible refine SinceOf.further ?_ _) | (with_reducible refine SinceOf.setCell ?_ (by first | exact Nat.le_refl _ | (simp; done) | omega | (simp; omega)) _))))).calls.mono ?_
    rintro e _ ⟨rfl, x1, rfl⟩
    go_wp2_with fail
    go_returns
    exact ⟨none, 0, none, 0, rfl, IsRow.nil _ _ _, IsRow.nil _ _ _, by (repeat (first | (with_reducible exact SinceOf.refl _) | (with_reducible assumption) | (with_reducible refine SinceOf.alloc ?_ _) | (with_reducible refine SinceOf.drew ?_) | (with_reducible refine SinceOf.drewN ?_ _) | (with_reducible refine SinceOf.later ?_ _) | (with_reducible refine SinceOf.further ?_ _) | (with_reducible refine SinceOf.setCell ?_ (by first | exact Nat.le_refl _ | (simp; done) | omega | (simp; omega)) _)))⟩
  rw [hc, if_pos rfl] at hres
  by_cases h6 : 6 < L.length
  · rw [if_pos h6] at hres
    rw [hc] at CH
    subst hres
    have h6' : (6 : Int) < L.length := by omega
    obtain ⟨sA, sc, cals, sB, sd, R, most⟩ := s
    clear hs h hc hn
    go_enter Try.func17, Try.ntmps17
    go_wp2_with fail
    refine (CH _ (by (repeat (first | (with_reducible exact SinceOf.refl _) | (with_reducible assumption) | (with_reducible refine SinceOf.alloc ?_ _) | (with_reducible refine SinceOf.drew ?_) | (with_reducible refine SinceOf.drewN ?_ _) | (with_reducible refine SinceOf.later ?_ _) | (with_reducible refine SinceOf.further ?_ _) | (with_reducible refine SinceOf.setCell ?_ (by first | exact Nat.le_refl _ | (simp; done) | omega | (simp; omega)) _))))).calls.mono ?_
    rintro e _ ⟨rfl, x1, rfl⟩
    go_wp2_with fail
    go_returns
    exact ⟨none, 0, none, 0, rfl, IsRow.nil _ _ _, IsRow.nil _ _ _, by (repeat (first | (with_reducible exact SinceOf.refl _) | (with_reducible assumption) | (with_reducible refine SinceOf.alloc ?_ _) | (with_reducible refine SinceOf.drew ?_) | (with_reducible refine SinceOf.drewN ?_ _) | (with_reducible refine SinceOf.later ?_ _) | (with_reducible refine SinceOf.further ?_ _) | (with_reducible refine SinceOf.setCell ?_ (by first | exact Nat.le_refl _ | (simp; done) | omega | (simp; omega)) _)))⟩
  rw [if_neg h6] at hres
  have hn4 : L.length ≤ 4 := by omega
  obtain ⟨hch, hhd⟩ := perms_chain L.length hn4
  have hmem : ∀ o ∈ permsI L.length, (∀ x ∈ o, 0 ≤ x ∧ x < L.length) ∧ o.Nodup := fun o ho => dfs_range L.length [] o (by simp) (by simp) ho
  have hlen : ∀ o ∈ permsI L.length, o.length = L.length := fun o ho => by have := dfs_len L.length [] o ho; simpa using this
  rw [hc] at CH
  have LI := fun (o : List Int) (ho : o ∈ permsI L.length) C d W (hW : SinceOf w W) (hi : IsInts W C d o) => refList_any s A c L C d o W (hs.of hW) (h.of hW) hi (by rw [hlen o ho]; omega)
  have hlv : ∀ o ∈ permsI L.length, (listV s L o).2.1 = placeAll s L [] o := fun o ho => by
    unfold listV
    rw [if_pos hc]
    exact list_place o [] [] (list_ok o [] [] (hmem o ho).2 (hmem o ho).1 (fun x _ => by simp [jobsOf]))
  have PR := fun (l : List SlotR) (hg : GoodS s L l) (hl5 : l.length < 1073741824) B d W (hW : SinceOf w W) (hi : IsSlots W B d l) => refPrice_any A c L B d l W (h.of hW) (by omega) (any_due hc) hi hl5 (good_stop hg)
  have hpg : ∀ o ∈ permsI L.length, GoodS s L (placeAll s L [] o) ∧ (placeAll s L [] o).length < 1073741824 := fun o ho => ⟨place_good hc o [] (good_nil s L) (hmem o ho).1, by have := place_length s L o []; rw [hlen o ho] at this; simp at this; omega⟩
  obtain ⟨i0, hi, hz0, hz1, hz2⟩ := info_parts infoInt
  have HI := Lib.hid (And.intro hi (And.intro hz0 (And.intro hz1 hz2)))
  have H := Lib.hid (And.intro hres (And.intro hch (And.intro hhd (And.intro LI (And.intro hlv (And.intro PR hpg))))))
  obtain ⟨sA, sc, cals, sB, sd, R, most⟩ := s
  have h6' : ¬ (6 : Int) < L.length := by omega
  clear hs h hc hn hres hch hhd hmem hlen LI hlv PR hpg hi hz0 hz1 hz2 h6
  go_enter Try.func17, Try.ntmps17
  go_wp2_with fail
  refine (CH _ (by (repeat (first | (with_reducible exact SinceOf.refl _) | (with_reducible assumption) | (with_reducible refine SinceOf.alloc ?_ _) | (with_reducible refine SinceOf.drew ?_) | (with_reducible refine SinceOf.drewN ?_ _) | (with_reducible refine SinceOf.later ?_ _) | (with_reducible refine SinceOf.further ?_ _) | (with_reducible refine SinceOf.setCell ?_ (by first | exact Nat.le_refl _ | (simp; done) | omega | (simp; omega)) _))))).calls.mono ?_
  rintro e _ ⟨rfl, x1, rfl⟩
  clear CH
  go_wp2_with fail
  go_loopg [7, 8] L.length (fun gas s7 s8 wr => ∃ (k : Nat) (A1 : Option Addr) (c1 : Nat), k ≤ L.length ∧ L.length - k ≤ gas ∧ s7 = .slice A1 (rangeI k).length c1 ∧ s8 = .int .i64 k ∧ Owns encN 1 x1.wd.heap.size 3 wr A1 c1 (rangeI k) ∧ SinceOf x1.wd wr)
  case atStart => exact ⟨0, none, 0, by omega, by omega, rfl, rfl, Owns.nil _ _ _ _ _, by (repeat (first | (with_reducible exact SinceOf.refl _) | (with_reducible assumption) | (with_reducible refine SinceOf.alloc ?_ _) | (with_reducible refine SinceOf.drew ?_) | (with_reducible refine SinceOf.drewN ?_ _) | (with_reducible refine SinceOf.later ?_ _) | (with_reducible refine SinceOf.further ?_ _) | (with_reducible refine SinceOf.setCell ?_ (by first | exact Nat.le_refl _ | (simp; done) | omega | (simp; omega)) _)))⟩
  case round =>
    obtain ⟨k, A1, c1, hk, hgas, rfl, rfl, hown, ⟨z, rfl⟩⟩ := hrel
    by_cases hlt : k < L.length
    · have hrs := range_succI k
      have hrl := range_lenI k
      generalize rangeI k = rk at *
      have HO := Lib.hid (And.intro hown hrs)
      have hsz := z.size
      clear hown hrs
      go_wp2_with (at_builtin; refine wpList_append_row rfl (.tmp 29) (.tmp 31) 51 rfl encN_len (by omega) encN_one i0 _ 8 Try.underlying51 HI.out.1 HI.out.2.1 HI.out.2.2.1 HI.out.2.2.2 rfl (l := rk) (A := A1) (c := c1) (base := x1.wd.heap.size) rfl (HO.out.1.of (by (repeat (first | (with_reducible exact SinceOf.refl _) | (with_reducible assumption) | (with_reducible refine SinceOf.alloc ?_ _) | (with_reducible refine SinceOf.drew ?_) | (with_reducible refine SinceOf.drewN ?_ _) | (with_reducible refine SinceOf.later ?_ _) | (with_reducible refine SinceOf.further ?_ _) | (with_reducible refine SinceOf.setCell ?_ (by first | exact Nat.le_refl _ | (simp; done) | omega | (simp; omega)) _))))) (m := [(k : Int)]) rfl (rowN_at _ _ _ _ (by first | rfl | simp)) (by unfold maxLen; simp; omega) (by simp; omega) (by simp; omega) ?_; intro E3 f3 w3 hown3 hgr3 hbl3)
      go_roundg (L.length - (k + 1))
      case measure => omega
      case rel =>
        refine ⟨k + 1, E3, f3, hlt, Nat.le_refl _, ?_, by go_num, ?_, ?_⟩
        · first | rw [range_lenI] | (rw [HO.out.2, List.length_append]; rfl)
        · rw [HO.out.2]; exact hown3
        · refine SinceOf.grown (by (repeat (first | (with_reducible exact SinceOf.refl _) | (with_reducible assumption) | (with_reducible refine SinceOf.alloc ?_ _) | (with_reducible refine SinceOf.drew ?_) | (with_reducible refine SinceOf.drewN ?_ _) | (with_reducible refine SinceOf.later ?_ _) | (with_reducible refine SinceOf.further ?_ _) | (with_reducible refine SinceOf.setCell ?_ (by first | exact Nat.le_refl _ | (simp; done) | omega | (simp; omega)) _)))) hgr3 ?_
          intro q hq
          exact (HO.out.1.below q hq).1
    · have hkl : k = L.length := by omega
      rw [hkl] at hown ⊢
      have hrow := hown.isRow encN_len
      have HO := Lib.hid hrow
      clear hown hrow hkl
      go_wp2_with fail
      obtain ⟨o0, r0, hpr⟩ : ∃ o r, permsI L.length = o :: r := by
        have := H.out.2.2.1
        cases q : permsI L.length with
        | nil => rw [q] at this; cases this
        | cons o r => exact ⟨o, r, rfl⟩
      have ho0 : o0 = rangeI L.length := by have := H.out.2.2.1; rw [hpr] at this; simpa using this
      have hcap0 := HO.out
      rw [← ho0] at hcap0 ⊢
      have HP := Lib.hid (And.intro hpr hcap0)
      clear hpr hcap0 HO ho0
      go_loopg [7, 9, 10, 11, 12] (permsI L.length).length (fun gas s7 s9 s10 s11 s12 wr => ∃ (rem : List (List Int)) (best : BestR) (A7 : Option Addr) (c7 : Nat) (A9 : Option Addr) (c9 : Nat) (A10 : Option Addr) (c10 : Nat), rem.length ≤ gas ∧ s12 = .bool (!rem.isEmpty) ∧ s11 = .bool best.isSome ∧ s9 = .slice A9 (orderB best).length c9 ∧ s10 = .slice A10 (slotsB best).length c10 ∧ IsInts wr A9 c9 (orderB best) ∧ IsSlots wr A10 c10 (slotsB best) ∧
        (∀ o r, rem = o :: r → s7 = .slice A7 o.length c7 ∧ IsInts wr A7 c7 o ∧ chainB rem = true) ∧ (∀ o ∈ rem, o ∈ permsI L.length) ∧ (∀ b, best = some b → GoodS ⟨sA, sc, cals, sB, sd, R, most⟩ L b.2 ∧ b.2.length < 1073741824) ∧ SinceOf x1.wd wr ∧ bestOver ⟨sA, sc, cals, sB, sd, R, most⟩ L none (permsI L.length) = bestOver ⟨sA, sc, cals, sB, sd, R, most⟩ L best rem)
      case atStart => exact ⟨permsI L.length, none, A1, c1, none, 0, none, 0, Nat.le_refl _, by rw [HP.out.1]; rfl, rfl, rfl, rfl, IsRow.nil _ _ _, IsRow.nil _ _ _, (fun o r e => by rw [HP.out.1] at e; injection e with e1 e2; subst e1; exact ⟨rfl, HP.out.2, H.out.2.1⟩), (fun o ho => ho), (fun b hb => by cases hb), by (repeat (first | (with_reducible exact SinceOf.refl _) | (with_reducible assumption) | (with_reducible refine SinceOf.alloc ?_ _) | (with_reducible refine SinceOf.drew ?_) | (with_reducible refine SinceOf.drewN ?_ _) | (with_reducible refine SinceOf.later ?_ _) | (with_reducible refine SinceOf.further ?_ _) | (with_reducible refine SinceOf.setCell ?_ (by first | exact Nat.le_refl _ | (simp; done) | omega | (simp; omega)) _))), rfl⟩
      case round =>
        obtain ⟨rem, best, A7, c7, A9, c9, A10, c10, hgas, rfl, rfl, rfl, rfl, hr9, hr10, hhd, hall, hgood, ⟨z2, rfl⟩, hbo⟩ := hrel
        cases rem with
        | nil =>
          have hr : res = (orderB best, slotsB best, 0) := by rw [H.out.1, hbo]; rfl
          have HZ := Lib.hid (And.intro hr9 (And.intro hr10 hr))
          clear hr9 hr10 hhd hall hgood hbo hr
          simp only [List.isEmpty_nil, Bool.not_true]
          go_wp2_with fail
          go_returns
          rw [HZ.out.2.2]
          exact ⟨A9, c9, A10, c10, rfl, HZ.out.1, HZ.out.2.1, by (repeat (first | (with_reducible exact SinceOf.refl _) | (with_reducible assumption) | (with_reducible refine SinceOf.alloc ?_ _) | (with_reducible refine SinceOf.drew ?_) | (with_reducible refine SinceOf.drewN ?_ _) | (with_reducible refine SinceOf.later ?_ _) | (with_reducible refine SinceOf.further ?_ _) | (with_reducible refine SinceOf.setCell ?_ (by first | exact Nat.le_refl _ | (simp; done) | omega | (simp; omega)) _)))⟩
        | cons o r =>
          obtain ⟨hs7, hr7, hch⟩ := hhd o r rfl
          subst hs7
          have ho := hall o (by simp)
          have LO := H.out.2.2.2.1 o ho A7 c7
          rw [H.out.2.2.2.2.1 o ho] at LO
          have hpg := H.out.2.2.2.2.2.2 o ho
          have PS := H.out.2.2.2.2.2.1 _ hpg.1 hpg.2
          have hol : o.length < 1073741824 := by
            have := dfs_len L.length [] o ho
            simp at this
            omega
          rw [best_cons] at hbo
          generalize (listV ⟨sA, sc, cals, sB, sd, R, most⟩ L o).1 = le at *
          generalize (listV ⟨sA, sc, cals, sB, sd, R, most⟩ L o).2.2 = lf at *
          generalize placeAll ⟨sA, sc, cals, sB, sd, R, most⟩ L [] o = sl at *
          have FO := fun W (hW : SinceOf z2.wd W) => following_any A7 c7 o W (hr7.of hW) hol
          have HC := Lib.hid (And.intro hch (And.intro hall (And.intro hgood (And.intro hpg (And.intro hbo (And.intro hr9 (And.intro hr10 hr7)))))))
          clear hch hhd hall hgood hpg hbo hr9 hr10 hr7
          simp only [List.isEmpty_cons, Bool.not_false]
          cases best with
          | none =>
            go_wp2_with fail
            refine (LO _ (by (repeat (first | (with_reducible exact SinceOf.refl _) | (with_reducible assumption) | (with_reducible refine SinceOf.alloc ?_ _) | (with_reducible refine SinceOf.drew ?_) | (with_reducible refine SinceOf.drewN ?_ _) | (with_reducible refine SinceOf.later ?_ _) | (with_reducible refine SinceOf.further ?_ _) | (with_reducible refine SinceOf.setCell ?_ (by first | exact Nat.le_refl _ | (simp; done) | omega | (simp; omega)) _)))) (HC.out.2.2.2.2.2.2.2.of (by (repeat (first | (with_reducible exact SinceOf.refl _) | (with_reducible assumption) | (with_reducible refine SinceOf.alloc ?_ _) | (with_reducible refine SinceOf.drew ?_) | (with_reducible refine SinceOf.drewN ?_ _) | (with_reducible refine SinceOf.later ?_ _) | (with_reducible refine SinceOf.further ?_ _) | (with_reducible refine SinceOf.setCell ?_ (by first | exact Nat.le_refl _ | (simp; done) | omega | (simp; omega)) _)))))).mono ?_
            rintro e _ ⟨B1, b1, E1, f1, rfl, hsl, -, -, ⟨z3, rfl⟩⟩
            have HS := Lib.hid hsl
            clear hsl LO
            go_wp2_with fail
            refine (FO _ (by (repeat (first | (with_reducible exact SinceOf.refl _) | (with_reducible assumption) | (with_reducible refine SinceOf.alloc ?_ _) | (with_reducible refine SinceOf.drew ?_) | (with_reducible refine SinceOf.drewN ?_ _) | (with_reducible refine SinceOf.later ?_ _) | (with_reducible refine SinceOf.further ?_ _) | (with_reducible refine SinceOf.setCell ?_ (by first | exact Nat.le_refl _ | (simp; done) | omega | (simp; omega)) _))))).mono ?_
            rintro e _ ⟨B5, d5, rfl, hfo, ⟨z6, rfl⟩⟩
            have HF := Lib.hid hfo
            clear hfo FO
            go_wp2_with fail
            have hb9 : bestStep L none (o, sl) = some (o, sl) := rfl
            go_roundg r.length
            case measure => simp at hgas; omega
            case rel =>
              refine ⟨r, some (o, sl), B5, d5, A7, c7, B1, b1, Nat.le_refl _, ?_, rfl, rfl, rfl, HC.out.2.2.2.2.2.2.2.of (by (repeat (first | (with_reducible exact SinceOf.refl _) | (with_reducible assumption) | (with_reducible refine SinceOf.alloc ?_ _) | (with_reducible refine SinceOf.drew ?_) | (with_reducible refine SinceOf.drewN ?_ _) | (with_reducible refine SinceOf.later ?_ _) | (with_reducible refine SinceOf.further ?_ _) | (with_reducible refine SinceOf.setCell ?_ (by first | exact Nat.le_refl _ | (simp; done) | omega | (simp; omega)) _)))), HS.out.of (by (repeat (first | (with_reducible exact SinceOf.refl _) | (with_reducible assumption) | (with_reducible refine SinceOf.alloc ?_ _) | (with_reducible refine SinceOf.drew ?_) | (with_reducible refine SinceOf.drewN ?_ _) | (with_reducible refine SinceOf.later ?_ _) | (with_reducible refine SinceOf.further ?_ _) | (with_reducible refine SinceOf.setCell ?_ (by first | exact Nat.le_refl _ | (simp; done) | omega | (simp; omega)) _)))), ?_, fun p hp => HC.out.2.1 p (by simp [hp]), (fun b hb => by injection hb with hb; subst hb; exact HC.out.2.2.2.1), by (repeat (first | (with_reducible exact SinceOf.refl _) | (with_reducible assumption) | (with_reducible refine SinceOf.alloc ?_ _) | (with_reducible refine SinceOf.drew ?_) | (with_reducible refine SinceOf.drewN ?_ _) | (with_reducible refine SinceOf.later ?_ _) | (with_reducible refine SinceOf.further ?_ _) | (with_reducible refine SinceOf.setCell ?_ (by first | exact Nat.le_refl _ | (simp; done) | omega | (simp; omega)) _))), by rw [HC.out.2.2.2.2.1, hb9]⟩
              · rcases chain_head HC.out.1 with ⟨rfl, e⟩ | ⟨p, q, rfl, e, -⟩ <;> rw [e] <;> rfl
              · intro p q e
                rcases chain_head HC.out.1 with ⟨rfl, -⟩ | ⟨p', q', rfl, e1, e2⟩
                · cases e
                · injection e with e3 e4
                  subst e3 e4
                  have := HF.out
                  rw [e1] at this ⊢
                  exact ⟨rfl, this, e2⟩
          | some bx =>
            have PB := H.out.2.2.2.2.2.1 _ (HC.out.2.2.1 bx rfl).1 (HC.out.2.2.1 bx rfl).2
            rw [show slotsB (some bx) = bx.2 from rfl, show orderB (some bx) = bx.1 from rfl]
            have HB9 := Lib.hid (show IsInts z2.wd A9 c9 bx.1 ∧ IsSlots z2.wd A10 c10 bx.2 from ⟨HC.out.2.2.2.2.2.1, HC.out.2.2.2.2.2.2.1⟩)
            have hstep : bestStep L (some bx) (o, sl) = if costLt L sl bx.2 = true then some (o, sl) else some bx := rfl
            have hcl : costLt L sl bx.2 = lessC (priceV L sl).job (priceV L sl).mach (priceV L sl).start (priceV L sl).stop (priceV L bx.2).job (priceV L bx.2).mach (priceV L bx.2).start (priceV L bx.2).stop := rfl
            have LE := fun W => refLess_any (priceV L sl).job (priceV L sl).mach (priceV L sl).start (priceV L sl).stop (priceV L bx.2).job (priceV L bx.2).mach (priceV L bx.2).start (priceV L bx.2).stop W
            rw [← hcl] at LE
            generalize priceV L sl = p1 at *
            generalize priceV L bx.2 = p2 at *
            generalize costLt L sl bx.2 = q at *
            have HQ := Lib.hid hstep
            clear hstep hcl
            obtain ⟨p10, p11, p12, p13⟩ := p1
            obtain ⟨p20, p21, p22, p23⟩ := p2
            simp only at LE
            go_wp2_with fail
            refine (LO _ (by (repeat (first | (with_reducible exact SinceOf.refl _) | (with_reducible assumption) | (with_reducible refine SinceOf.alloc ?_ _) | (with_reducible refine SinceOf.drew ?_) | (with_reducible refine SinceOf.drewN ?_ _) | (with_reducible refine SinceOf.later ?_ _) | (with_reducible refine SinceOf.further ?_ _) | (with_reducible refine SinceOf.setCell ?_ (by first | exact Nat.le_refl _ | (simp; done) | omega | (simp; omega)) _)))) (HC.out.2.2.2.2.2.2.2.of (by (repeat (first | (with_reducible exact SinceOf.refl _) | (with_reducible assumption) | (with_reducible refine SinceOf.alloc ?_ _) | (with_reducible refine SinceOf.drew ?_) | (with_reducible refine SinceOf.drewN ?_ _) | (with_reducible refine SinceOf.later ?_ _) | (with_reducible refine SinceOf.further ?_ _) | (with_reducible refine SinceOf.setCell ?_ (by first | exact Nat.le_refl _ | (simp; done) | omega | (simp; omega)) _)))))).mono ?_
            rintro e _ ⟨B1, b1, E1, f1, rfl, hsl, -, -, ⟨z3, rfl⟩⟩
            have HS := Lib.hid hsl
            clear hsl LO
            simp only [Option.isSome_some]
            go_wp2_with fail
            (with_reducible refine (PS _ _ _ (by (repeat (first | (with_reducible exact SinceOf.refl _) | (with_reducible assumption) | (with_reducible refine SinceOf.alloc ?_ _) | (with_reducible refine SinceOf.drew ?_) | (with_reducible refine SinceOf.drewN ?_ _) | (with_reducible refine SinceOf.later ?_ _) | (with_reducible refine SinceOf.further ?_ _) | (with_reducible refine SinceOf.setCell ?_ (by first | exact Nat.le_refl _ | (simp; done) | omega | (simp; omega)) _)))) (HS.out.of (by (repeat (first | (with_reducible exact SinceOf.refl _) | (with_reducible assumption) | (with_reducible refine SinceOf.alloc ?_ _) | (with_reducible refine SinceOf.drew ?_) | (with_reducible refine SinceOf.drewN ?_ _) | (with_reducible refine SinceOf.later ?_ _) | (with_reducible refine SinceOf.further ?_ _) | (with_reducible refine SinceOf.setCell ?_ (by first | exact Nat.le_refl _ | (simp; done) | omega | (simp; omega)) _)))))).calls.mono ?_)
            rintro e _ ⟨rfl, z4, rfl⟩
            go_wp2_with fail
            (with_reducible refine (PB _ _ _ (by (repeat (first | (with_reducible exact SinceOf.refl _) | (with_reducible assumption) | (with_reducible refine SinceOf.alloc ?_ _) | (with_reducible refine SinceOf.drew ?_) | (with_reducible refine SinceOf.drewN ?_ _) | (with_reducible refine SinceOf.later ?_ _) | (with_reducible refine SinceOf.further ?_ _) | (with_reducible refine SinceOf.setCell ?_ (by first | exact Nat.le_refl _ | (simp; done) | omega | (simp; omega)) _)))) (HB9.out.2.of (by (repeat (first | (with_reducible exact SinceOf.refl _) | (with_reducible assumption) | (with_reducible refine SinceOf.alloc ?_ _) | (with_reducible refine SinceOf.drew ?_) | (with_reducible refine SinceOf.drewN ?_ _) | (with_reducible refine SinceOf.later ?_ _) | (with_reducible refine SinceOf.further ?_ _) | (with_reducible refine SinceOf.setCell ?_ (by first | exact Nat.le_refl _ | (simp; done) | omega | (simp; omega)) _)))))).calls.mono ?_)
            rintro e _ ⟨rfl, z5, rfl⟩
            go_wp2_with fail
            refine (LE _).calls.mono ?_
            rintro e _ ⟨rfl, z7, rfl⟩
            cases q
            · go_wp2_with fail
              refine (FO _ (by (repeat (first | (with_reducible exact SinceOf.refl _) | (with_reducible assumption) | (with_reducible refine SinceOf.alloc ?_ _) | (with_reducible refine SinceOf.drew ?_) | (with_reducible refine SinceOf.drewN ?_ _) | (with_reducible refine SinceOf.later ?_ _) | (with_reducible refine SinceOf.further ?_ _) | (with_reducible refine SinceOf.setCell ?_ (by first | exact Nat.le_refl _ | (simp; done) | omega | (simp; omega)) _))))).mono ?_
              rintro e _ ⟨B5, d5, rfl, hfo, ⟨z6, rfl⟩⟩
              have HF := Lib.hid hfo
              clear hfo FO
              go_wp2_with fail
              go_roundg r.length
              case measure => simp at hgas; omega
              case rel =>
                refine ⟨r, some bx, B5, d5, A9, c9, A10, c10, Nat.le_refl _, ?_, rfl, rfl, rfl, HB9.out.1.of (by (repeat (first | (with_reducible exact SinceOf.refl _) | (with_reducible assumption) | (with_reducible refine SinceOf.alloc ?_ _) | (with_reducible refine SinceOf.drew ?_) | (with_reducible refine SinceOf.drewN ?_ _) | (with_reducible refine SinceOf.later ?_ _) | (with_reducible refine SinceOf.further ?_ _) | (with_reducible refine SinceOf.setCell ?_ (by first | exact Nat.le_refl _ | (simp; done) | omega | (simp; omega)) _)))), HB9.out.2.of (by (repeat (first | (with_reducible exact SinceOf.refl _) | (with_reducible assumption) | (with_reducible refine SinceOf.alloc ?_ _) | (with_reducible refine SinceOf.drew ?_) | (with_reducible refine SinceOf.drewN ?_ _) | (with_reducible refine SinceOf.later ?_ _) | (with_reducible refine SinceOf.further ?_ _) | (with_reducible refine SinceOf.setCell ?_ (by first | exact Nat.le_refl _ | (simp; done) | omega | (simp; omega)) _)))), ?_, fun p hp => HC.out.2.1 p (by simp [hp]), HC.out.2.2.1, by (repeat (first | (with_reducible exact SinceOf.refl _) | (with_reducible assumption) | (with_reducible refine SinceOf.alloc ?_ _) | (with_reducible refine SinceOf.drew ?_) | (with_reducible refine SinceOf.drewN ?_ _) | (with_reducible refine SinceOf.later ?_ _) | (with_reducible refine SinceOf.further ?_ _) | (with_reducible refine SinceOf.setCell ?_ (by first | exact Nat.le_refl _ | (simp; done) | omega | (simp; omega)) _))), by rw [HC.out.2.2.2.2.1, HQ.out]; rfl⟩
                · rcases chain_head HC.out.1 with ⟨rfl, e⟩ | ⟨p, q, rfl, e, -⟩ <;> rw [e] <;> rfl
                · intro p q e
                  rcases chain_head HC.out.1 with ⟨rfl, -⟩ | ⟨p', q', rfl, e1, e2⟩
                  · cases e
                  · injection e with e3 e4
                    subst e3 e4
                    have := HF.out
                    rw [e1] at this ⊢
                    exact ⟨rfl, this, e2⟩
            · go_wp2_with fail
              refine (FO _ (by (repeat (first | (with_reducible exact SinceOf.refl _) | (with_reducible assumption) | (with_reducible refine SinceOf.alloc ?_ _) | (with_reducible refine SinceOf.drew ?_) | (with_reducible refine SinceOf.drewN ?_ _) | (with_reducible refine SinceOf.later ?_ _) | (with_reducible refine SinceOf.further ?_ _) | (with_reducible refine SinceOf.setCell ?_ (by first | exact Nat.le_refl _ | (simp; done) | omega | (simp; omega)) _))))).mono ?_
              rintro e _ ⟨B5, d5, rfl, hfo, ⟨z6, rfl⟩⟩
              have HF := Lib.hid hfo
              clear hfo FO
              go_wp2_with fail
              go_roundg r.length
              case measure => simp at hgas; omega
              case rel =>
                refine ⟨r, some (o, sl), B5, d5, A7, c7, B1, b1, Nat.le_refl _, ?_, rfl, rfl, rfl, HC.out.2.2.2.2.2.2.2.of (by (repeat (first | (with_reducible exact SinceOf.refl _) | (with_reducible assumption) | (with_reducible refine SinceOf.alloc ?_ _) | (with_reducible refine SinceOf.drew ?_) | (with_reducible refine SinceOf.drewN ?_ _) | (with_reducible refine SinceOf.later ?_ _) | (with_reducible refine SinceOf.further ?_ _) | (with_reducible refine SinceOf.setCell ?_ (by first | exact Nat.le_refl _ | (simp; done) | omega | (simp; omega)) _)))), HS.out.of (by (repeat (first | (with_reducible exact SinceOf.refl _) | (with_reducible assumption) | (with_reducible refine SinceOf.alloc ?_ _) | (with_reducible refine SinceOf.drew ?_) | (with_reducible refine SinceOf.drewN ?_ _) | (with_reducible refine SinceOf.later ?_ _) | (with_reducible refine SinceOf.further ?_ _) | (with_reducible refine SinceOf.setCell ?_ (by first | exact Nat.le_refl _ | (simp; done) | omega | (simp; omega)) _)))), ?_, fun p hp => HC.out.2.1 p (by simp [hp]), (fun b hb => by injection hb with hb; subst hb; exact HC.out.2.2.2.1), by (repeat (first | (with_reducible exact SinceOf.refl _) | (with_reducible assumption) | (with_reducible refine SinceOf.alloc ?_ _) | (with_reducible refine SinceOf.drew ?_) | (with_reducible refine SinceOf.drewN ?_ _) | (with_reducible refine SinceOf.later ?_ _) | (with_reducible refine SinceOf.further ?_ _) | (with_reducible refine SinceOf.setCell ?_ (by first | exact Nat.le_refl _ | (simp; done) | omega | (simp; omega)) _))), by rw [HC.out.2.2.2.2.1, HQ.out]; rfl⟩
                · rcases chain_head HC.out.1 with ⟨rfl, e⟩ | ⟨p, q, rfl, e, -⟩ <;> rw [e] <;> rfl
                · intro p q e
                  rcases chain_head HC.out.1 with ⟨rfl, -⟩ | ⟨p', q', rfl, e1, e2⟩
                  · cases e
                  · injection e with e3 e4
                    subst e3 e4
                    have := HF.out
                    rw [e1] at this ⊢
                    exact ⟨rfl, this, e2⟩
end Go.Proofs.Ytdcncalcncomoaa
