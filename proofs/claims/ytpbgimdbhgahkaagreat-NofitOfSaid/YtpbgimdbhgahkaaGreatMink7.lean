/- Layer 15: Where and Place. -/
import Derived.Test.YtpbgimdbhgahkaaGreatMink2
import Derived.Test.YtpbgimdbhgahkaaGreatMink4
import Derived.Test.YtpbgimdbhgahkaaGreatMinkP4
import Derived.Test.YtpbgimdbhgahkaaGreatSame
namespace Go.Proofs.YtpbgimdbhgahkaaGreat
open Go.RowKit Go.Sort
set_option linter.unusedVariables false
set_option linter.unusedSimpArgs false
attribute [local go_sem ↓] Go.wp_at_zero Go.wp_at_succ

def turnP (a b c : Pt) : Int := turnI a.1 a.2 b.1 b.2 c.1 c.2
def placeL (r : List Pt) (p : Pt) : List Nat → Int → Int
  | [], out => out
  | i :: l, out => if turnP (at0 r i) (rv r (i + 1)) p = -1 then 0 else placeL r p l (if turnP (at0 r i) (rv r (i + 1)) p = 0 then 1 else out)
def placeV (r : List Pt) (p : Pt) : Int := placeL r p (List.range' 0 r.length) 2
def whereM (r : List Pt) (p : Pt) : Int := if validB r && inV p then placeV r p else 0
theorem range_step {n i : Nat} (h : i < n) : List.range' i (n - i) = i :: List.range' (i + 1) (n - (i + 1)) := by
  obtain ⟨m, hm⟩ : ∃ m, n - i = m + 1 := ⟨n - i - 1, by omega⟩
  rw [hm, show n - (i + 1) = m by omega]
  rfl
theorem turnP_range (a b c : Pt) : -1 ≤ turnP a b c ∧ turnP a b c ≤ 1 := turn_range _ _ _ _ _ _
theorem placeL_zero {r : List Pt} {p : Pt} : ∀ (l : List Nat) (out : Int), out ≠ 0 → (placeL r p l out = 0 ↔ ∃ i ∈ l, turnP (at0 r i) (rv r (i + 1)) p = -1)
  | [], out, h => by simp [placeL, h]
  | i :: l, out, h => by
    unfold placeL
    split
    · rename_i h1
      exact ⟨fun _ => ⟨i, by simp, h1⟩, fun _ => rfl⟩
    · rename_i h1
      rw [placeL_zero l _ (by split <;> omega)]
      constructor
      · rintro ⟨j, hj, h2⟩
        exact ⟨j, List.mem_cons_of_mem _ hj, h2⟩
      · rintro ⟨j, hj, h2⟩
        rcases List.mem_cons.1 hj with rfl | hj
        · exact absurd h2 h1
        · exact ⟨j, hj, h2⟩
theorem placeL_one {r : List Pt} {p : Pt} : ∀ (l : List Nat), placeL r p l 1 ≠ 2
  | [] => by unfold placeL; omega
  | i :: l => by
    unfold placeL
    split
    · omega
    · split <;> exact placeL_one l
theorem placeL_two {r : List Pt} {p : Pt} : ∀ (l : List Nat), placeL r p l 2 = 2 ↔ ∀ i ∈ l, turnP (at0 r i) (rv r (i + 1)) p = 1
  | [] => by simp [placeL]
  | i :: l => by
    unfold placeL
    have ht := turnP_range (at0 r i) (rv r (i + 1)) p
    split
    · rename_i h1
      constructor
      · intro h; omega
      · intro h; have := h i (by simp); omega
    · split
      · rename_i h1 h2
        constructor
        · intro h; exact absurd h (placeL_one l)
        · intro h; have := h i (by simp); omega
      · rename_i h1 h2
        rw [placeL_two l]
        constructor
        · intro h j hj
          rcases List.mem_cons.1 hj with rfl | hj
          · omega
          · exact h j hj
        · intro h j hj
          exact h j (List.mem_cons_of_mem _ hj)
theorem place_in {m : Int} (hm : m ≤ 100000) {r : List Pt} {p : Pt} (hr : ∀ q ∈ r, near m q) (hp : near m p) : placeV r p = 2 ↔ ∀ i, i < r.length → 0 < det (at0 r i) (rv r (i + 1)) p := by
  unfold placeV
  rw [placeL_two]
  have key : ∀ i, i < r.length → (turnP (at0 r i) (rv r (i + 1)) p = 1 ↔ 0 < det (at0 r i) (rv r (i + 1)) p) := fun i hi => by
    have e : turnP (at0 r i) (rv r (i + 1)) p = cmpi (det (at0 r i) (rv r (i + 1)) p) 0 := turn_near hm (hr _ (at0_mem hi)) (hr _ (rv_mem (by omega))) hp
    have h1 := turnP_range (at0 r i) (rv r (i + 1)) p
    have h2 := cmpi_pos (det (at0 r i) (rv r (i + 1)) p)
    omega
  constructor
  · intro h i hi
    exact (key i hi).1 (h i (by rw [List.mem_range'_1]; omega))
  · intro h i hi
    have hi' : i < r.length := by rw [List.mem_range'_1] at hi; omega
    exact (key i hi').2 (h i hi')
theorem place_out {m : Int} (hm : m ≤ 100000) {r : List Pt} {p : Pt} (hr : ∀ q ∈ r, near m q) (hp : near m p) : placeV r p ≠ 0 ↔ ∀ i, i < r.length → 0 ≤ det (at0 r i) (rv r (i + 1)) p := by
  unfold placeV
  rw [Ne, placeL_zero _ _ (by omega)]
  have key : ∀ i, i < r.length → (turnP (at0 r i) (rv r (i + 1)) p = -1 ↔ det (at0 r i) (rv r (i + 1)) p < 0) := fun i hi => by
    have e : turnP (at0 r i) (rv r (i + 1)) p = cmpi (det (at0 r i) (rv r (i + 1)) p) 0 := turn_near hm (hr _ (at0_mem hi)) (hr _ (rv_mem (by omega))) hp
    have h1 := turnP_range (at0 r i) (rv r (i + 1)) p
    have h2 := cmpi_lt (det (at0 r i) (rv r (i + 1)) p)
    omega
  constructor
  · intro h i hi
    rcases Int.lt_or_le (det (at0 r i) (rv r (i + 1)) p) 0 with q | q
    · exact absurd ⟨i, by rw [List.mem_range'_1]; omega, (key i hi).2 q⟩ h
    · exact q
  · rintro h ⟨i, hi, h2⟩
    have hi' : i < r.length := by rw [List.mem_range'_1] at hi; omega
    have := h i hi'
    have := (key i hi').1 h2
    omega
set_option maxRecDepth 100000 in
set_option maxHeartbeats 8000000 in
theorem where_any (A : Option Addr) (c : Nat) (r : List (Int × Int)) (px py : Int) (w : World) (h : IsVecs w A c r) (hlen : r.length ≤ 100000) :
    Gives Tryz.prog 30 #[.slice A r.length c, vv px py] w (.int .i64 (whereM r (px, py))) := by
  apply Gives.ret
  have H := Lib.hid h
  clear h
  have W1 := within_any px py 8000
  rw [show withinB px py 8000 = inV (px, py) from rfl] at W1
  unfold whereM
  cases hin : inV (px, py)
  · rw [hin] at W1
    rw [Bool.and_false, if_neg (by decide)]
    clear hin
    go_enter Tryz.func30, Tryz.ntmps30
    go_wp2_with fail
    refine (W1 _).calls.mono ?_
    rintro e _ ⟨rfl, x1, rfl⟩
    go_wp2_with fail
    go_returns
    exact ⟨rfl, by (repeat (first | (with_reducible exact LaterOf.refl _) | (with_reducible refine LaterOf.alloc ?_ _) | (with_reducible refine LaterOf.drew ?_) | (with_reducible refine LaterOf.drewN ?_ _) | (with_reducible refine LaterOf.later ?_ _) | (with_reducible refine LaterOf.setCell ?_ (by first | exact Nat.le_refl _ | (simp; done) | omega | (simp; omega)) _)))⟩
  rw [hin] at W1
  rw [Bool.and_true]
  clear hin
  have V := fun W (hW : SinceOf w W) => valid_any A c r W (H.out.of hW) (by omega)
  have NX := fun (j : Nat) (hj : j < r.length) W (hW : SinceOf w W) => next_any A c r j W (H.out.of hW) (by omega) hlen (by omega)
  generalize validB r = vr at *
  have hv0 : placeV r (px, py) = 0 → (if vr = true then placeV r (px, py) else 0) = 0 := fun h => by rw [h]; split <;> rfl
  generalize hres : (if vr = true then placeV r (px, py) else 0) = res at *
  have HR := Lib.hid (And.intro hres hv0)
  clear hres hv0
  go_enter Tryz.func30, Tryz.ntmps30
  go_wp2_with fail
  refine (W1 _).calls.mono ?_
  rintro e _ ⟨rfl, x1, rfl⟩
  clear W1
  have v1 : VarV x1.wd w.heap.size (px, py) := (VarV.new w px py 24).of (by (repeat (first | (with_reducible exact SinceOf.refl _) | (with_reducible assumption) | (with_reducible refine SinceOf.alloc ?_ _) | (with_reducible refine SinceOf.drew ?_) | (with_reducible refine SinceOf.drewN ?_ _) | (with_reducible refine SinceOf.later ?_ _) | (with_reducible refine SinceOf.further ?_ _) | (with_reducible refine SinceOf.setCell ?_ (by first | exact Nat.le_refl _ | (simp; done) | omega | (simp; omega)) _))))
  obtain ⟨v, hv1⟩ : LaterOf w x1.wd := by (repeat (first | (with_reducible exact LaterOf.refl _) | (with_reducible refine LaterOf.alloc ?_ _) | (with_reducible refine LaterOf.drew ?_) | (with_reducible refine LaterOf.drewN ?_ _) | (with_reducible refine LaterOf.later ?_ _) | (with_reducible refine LaterOf.setCell ?_ (by first | exact Nat.le_refl _ | (simp; done) | omega | (simp; omega)) _)))
  rw [hv1] at v1 ⊢
  clear hv1 x1
  have HV := Lib.hid v1
  clear v1
  go_wp2_with fail
  go_loopg [5, 13] r.length (fun gas s5 s13 wr => ∃ (i : Nat) (out : Int), i ≤ r.length ∧ r.length - i ≤ gas ∧ s5 = .int .i64 out ∧ s13 = .int .i64 i ∧ VarV wr w.heap.size (px, py) ∧ LaterOf w wr ∧ placeV r (px, py) = placeL r (px, py) (List.range' i (r.length - i)) out)
  case atStart => exact ⟨0, 2, by omega, by omega, rfl, rfl, HV.out, by (repeat (first | (with_reducible exact LaterOf.refl _) | (with_reducible refine LaterOf.alloc ?_ _) | (with_reducible refine LaterOf.drew ?_) | (with_reducible refine LaterOf.drewN ?_ _) | (with_reducible refine LaterOf.later ?_ _) | (with_reducible refine LaterOf.setCell ?_ (by first | exact Nat.le_refl _ | (simp; done) | omega | (simp; omega)) _))), rfl⟩
  case round =>
    obtain ⟨i, out, hi, hgas, rfl, rfl, e1, ⟨u, rfl⟩, hall⟩ := hrel
    by_cases hlt : i < r.length
    · rw [range_step hlt, placeL] at hall
      have hr0 := H.out.of (w' := u.wd) (by (repeat (first | (with_reducible exact SinceOf.refl _) | (with_reducible assumption) | (with_reducible refine SinceOf.alloc ?_ _) | (with_reducible refine SinceOf.drew ?_) | (with_reducible refine SinceOf.drewN ?_ _) | (with_reducible refine SinceOf.later ?_ _) | (with_reducible refine SinceOf.further ?_ _) | (with_reducible refine SinceOf.setCell ?_ (by first | exact Nat.le_refl _ | (simp; done) | omega | (simp; omega)) _))))
      obtain ⟨g, off, rfl, hr⟩ := hr0.at_ (by omega)
      have hO := hr.there
      have a0 := hr.v0 i hlt
      have a1 := hr.v1 i hlt
      have ea : at0 r i = r[i] := at0_eq hlt
      rw [ea] at hall
      have N1 := fun W (hW : SinceOf u.wd W) => NX i hlt W (SinceOf.trans (LaterOf.since ⟨u, rfl⟩) hW)
      have T := turn_any r[i].1 r[i].2 (rv r (i + 1)).1 (rv r (i + 1)).2 px py
      have hT : turnP r[i] (rv r (i + 1)) (px, py) = turnI r[i].1 r[i].2 (rv r (i + 1)).1 (rv r (i + 1)).2 px py := rfl
      have htr := turnP_range r[i] (rv r (i + 1)) (px, py)
      rw [← hT] at T
      have d0 := e1.c0
      have d1 := e1.c1
      have hU1 : Nonempty (Old u.wd w.heap.size) := ⟨⟨e1.lt⟩⟩
      simp only at d0 d1
      have HE := Lib.hid (And.intro hall e1)
      clear hall e1 hr hr0 ea hT
      generalize turnP r[i] (rv r (i + 1)) (px, py) = t at *
      generalize r[i].1 = xa at *
      generalize r[i].2 = ya at *
      generalize (rv r (i + 1)).1 = xb at *
      generalize (rv r (i + 1)).2 = yb at *
      have t1 := htr.1
      have t2 := htr.2
      clear htr
      by_cases h1 : t = -1
      · have g1 : (t == -1) = true := by simpa using h1
        have HH := Lib.hid (HR.out.2 (by rw [HE.out.1, if_pos h1]))
        clear h1
        go_wp2_with fail
        refine region_later (by kernel_rfl) (by kernel_rfl) ?_
        repeat (go_big_quiet_step ((first | with_reducible refine Gives.later (N1 _ (by (repeat (first | (with_reducible exact SinceOf.refl _) | (with_reducible assumption) | (with_reducible refine SinceOf.alloc ?_ _) | (with_reducible refine SinceOf.drew ?_) | (with_reducible refine SinceOf.drewN ?_ _) | (with_reducible refine SinceOf.later ?_ _) | (with_reducible refine SinceOf.further ?_ _) | (with_reducible refine SinceOf.setCell ?_ (by first | exact Nat.le_refl _ | (simp; done) | omega | (simp; omega)) _))))) | with_reducible refine Gives.later (T _))))
        refine wpQuiet_nil ?_
        rintro _ ⟨z4, rfl⟩
        go_wp2_with fail
        go_returns
        exact ⟨by rw [HH.out]; rfl, by (repeat (first | (with_reducible exact LaterOf.refl _) | (with_reducible refine LaterOf.alloc ?_ _) | (with_reducible refine LaterOf.drew ?_) | (with_reducible refine LaterOf.drewN ?_ _) | (with_reducible refine LaterOf.later ?_ _) | (with_reducible refine LaterOf.setCell ?_ (by first | exact Nat.le_refl _ | (simp; done) | omega | (simp; omega)) _)))⟩
      · have g1 : (t == -1) = false := by simpa using h1
        by_cases h2 : t = 0
        · have g2 : (t == 0) = true := by simpa using h2
          have HH := Lib.hid (show placeV r (px, py) = placeL r (px, py) (List.range' (i + 1) (r.length - (i + 1))) 1 by rw [HE.out.1, if_neg h1, if_pos h2])
          clear h1 h2
          go_wp2_with fail
          refine region_later (by kernel_rfl) (by kernel_rfl) ?_
          repeat (go_big_quiet_step ((first | with_reducible refine Gives.later (N1 _ (by (repeat (first | (with_reducible exact SinceOf.refl _) | (with_reducible assumption) | (with_reducible refine SinceOf.alloc ?_ _) | (with_reducible refine SinceOf.drew ?_) | (with_reducible refine SinceOf.drewN ?_ _) | (with_reducible refine SinceOf.later ?_ _) | (with_reducible refine SinceOf.further ?_ _) | (with_reducible refine SinceOf.setCell ?_ (by first | exact Nat.le_refl _ | (simp; done) | omega | (simp; omega)) _))))) | with_reducible refine Gives.later (T _))))
          refine wpQuiet_nil ?_
          rintro _ ⟨z4, rfl⟩
          go_wp2_with fail
          go_roundg (r.length - (i + 1))
          case measure => omega
          case rel => exact ⟨i + 1, 1, hlt, Nat.le_refl _, rfl, by go_num, HE.out.2.of (by (repeat (first | (with_reducible exact SinceOf.refl _) | (with_reducible assumption) | (with_reducible refine SinceOf.alloc ?_ _) | (with_reducible refine SinceOf.drew ?_) | (with_reducible refine SinceOf.drewN ?_ _) | (with_reducible refine SinceOf.later ?_ _) | (with_reducible refine SinceOf.further ?_ _) | (with_reducible refine SinceOf.setCell ?_ (by first | exact Nat.le_refl _ | (simp; done) | omega | (simp; omega)) _)))), by (repeat (first | (with_reducible exact LaterOf.refl _) | (with_reducible refine LaterOf.alloc ?_ _) | (with_reducible refine LaterOf.drew ?_) | (with_reducible refine LaterOf.drewN ?_ _) | (with_reducible refine LaterOf.later ?_ _) | (with_reducible refine LaterOf.setCell ?_ (by first | exact Nat.le_refl _ | (simp; done) | omega | (simp; omega)) _))), HH.out⟩
        · have g2 : (t == 0) = false := by simpa using h2
          have HH := Lib.hid (show placeV r (px, py) = placeL r (px, py) (List.range' (i + 1) (r.length - (i + 1))) out by rw [HE.out.1, if_neg h1, if_neg h2])
          clear h1 h2
          go_wp2_with fail
          refine region_later (by kernel_rfl) (by kernel_rfl) ?_
          repeat (go_big_quiet_step ((first | with_reducible refine Gives.later (N1 _ (by (repeat (first | (with_reducible exact SinceOf.refl _) | (with_reducible assumption) | (with_reducible refine SinceOf.alloc ?_ _) | (with_reducible refine SinceOf.drew ?_) | (with_reducible refine SinceOf.drewN ?_ _) | (with_reducible refine SinceOf.later ?_ _) | (with_reducible refine SinceOf.further ?_ _) | (with_reducible refine SinceOf.setCell ?_ (by first | exact Nat.le_refl _ | (simp; done) | omega | (simp; omega)) _))))) | with_reducible refine Gives.later (T _))))
          refine wpQuiet_nil ?_
          rintro _ ⟨z4, rfl⟩
          go_wp2_with fail
          go_roundg (r.length - (i + 1))
          case measure => omega
          case rel => exact ⟨i + 1, out, hlt, Nat.le_refl _, rfl, by go_num, HE.out.2.of (by (repeat (first | (with_reducible exact SinceOf.refl _) | (with_reducible assumption) | (with_reducible refine SinceOf.alloc ?_ _) | (with_reducible refine SinceOf.drew ?_) | (with_reducible refine SinceOf.drewN ?_ _) | (with_reducible refine SinceOf.later ?_ _) | (with_reducible refine SinceOf.further ?_ _) | (with_reducible refine SinceOf.setCell ?_ (by first | exact Nat.le_refl _ | (simp; done) | omega | (simp; omega)) _)))), by (repeat (first | (with_reducible exact LaterOf.refl _) | (with_reducible refine LaterOf.alloc ?_ _) | (with_reducible refine LaterOf.drew ?_) | (with_reducible refine LaterOf.drewN ?_ _) | (with_reducible refine LaterOf.later ?_ _) | (with_reducible refine LaterOf.setCell ?_ (by first | exact Nat.le_refl _ | (simp; done) | omega | (simp; omega)) _))), HH.out⟩
    · obtain rfl : i = r.length := by omega
      rw [Nat.sub_self] at hall
      have HA := Lib.hid (show placeV r (px, py) = out from hall)
      clear hall e1
      cases vr
      · obtain rfl : res = 0 := HR.out.1.symm
        go_wp2_with fail
        refine (V _ (by (repeat (first | (with_reducible exact SinceOf.refl _) | (with_reducible assumption) | (with_reducible refine SinceOf.alloc ?_ _) | (with_reducible refine SinceOf.drew ?_) | (with_reducible refine SinceOf.drewN ?_ _) | (with_reducible refine SinceOf.later ?_ _) | (with_reducible refine SinceOf.further ?_ _) | (with_reducible refine SinceOf.setCell ?_ (by first | exact Nat.le_refl _ | (simp; done) | omega | (simp; omega)) _))))).calls.mono ?_
        rintro e _ ⟨rfl, x2, rfl⟩
        go_wp2_with fail
        go_returns
        exact ⟨rfl, by (repeat (first | (with_reducible exact LaterOf.refl _) | (with_reducible refine LaterOf.alloc ?_ _) | (with_reducible refine LaterOf.drew ?_) | (with_reducible refine LaterOf.drewN ?_ _) | (with_reducible refine LaterOf.later ?_ _) | (with_reducible refine LaterOf.setCell ?_ (by first | exact Nat.le_refl _ | (simp; done) | omega | (simp; omega)) _)))⟩
      · obtain rfl : out = res := HA.out.symm.trans HR.out.1
        go_wp2_with fail
        refine (V _ (by (repeat (first | (with_reducible exact SinceOf.refl _) | (with_reducible assumption) | (with_reducible refine SinceOf.alloc ?_ _) | (with_reducible refine SinceOf.drew ?_) | (with_reducible refine SinceOf.drewN ?_ _) | (with_reducible refine SinceOf.later ?_ _) | (with_reducible refine SinceOf.further ?_ _) | (with_reducible refine SinceOf.setCell ?_ (by first | exact Nat.le_refl _ | (simp; done) | omega | (simp; omega)) _))))).calls.mono ?_
        rintro e _ ⟨rfl, x2, rfl⟩
        go_wp2_with fail
        go_returns
        exact ⟨rfl, by (repeat (first | (with_reducible exact LaterOf.refl _) | (with_reducible refine LaterOf.alloc ?_ _) | (with_reducible refine LaterOf.drew ?_) | (with_reducible refine LaterOf.drewN ?_ _) | (with_reducible refine LaterOf.later ?_ _) | (with_reducible refine LaterOf.setCell ?_ (by first | exact Nat.le_refl _ | (simp; done) | omega | (simp; omega)) _)))⟩
end Go.Proofs.YtpbgimdbhgahkaaGreat
/- Layer 15: Box, floor, Row of the program. -/
namespace Go.Proofs.YtpbgimdbhgahkaaGreat
open Go.RowKit Go.Sort
set_option linter.unusedVariables false
set_option linter.unusedSimpArgs false
attribute [local go_sem ↓] Go.wp_at_zero Go.wp_at_succ

def boxV (r : List Pt) : Int × Int × Int × Int := if validB r then boxOf r else (0, 0, 0, 0)
set_option maxRecDepth 100000 in
set_option maxHeartbeats 4000000 in
theorem box_any (A : Option Addr) (c : Nat) (r : List (Int × Int)) (w : World) (h : IsVecs w A c r) (hlen : r.length ≤ 100000) :
    Gives Tryz.prog 82 #[.slice A r.length c] w (.tuple #[bb (boxV r).1 (boxV r).2.1 (boxV r).2.2.1 (boxV r).2.2.2, .bool (validB r)]) := by
  apply Gives.ret
  have V := fun W (hW : SinceOf w W) => valid_any A c r W (h.of hW) (by omega)
  have B := fun W (hW : SinceOf w W) => boxOf_any A c r W (h.of hW) (by omega)
  unfold boxV
  have he : validB r = true → r.isEmpty = false := fun hv => by
    have := (validB_iff.1 hv).1
    cases r
    · simp at this
    · rfl
  clear h
  cases hv : validB r
  · rw [hv] at V
    clear B he hv
    go_enter Tryz.func82, Tryz.ntmps82
    go_wp2_with fail
    refine (V _ (by (repeat (first | (with_reducible exact SinceOf.refl _) | (with_reducible assumption) | (with_reducible refine SinceOf.alloc ?_ _) | (with_reducible refine SinceOf.drew ?_) | (with_reducible refine SinceOf.drewN ?_ _) | (with_reducible refine SinceOf.later ?_ _) | (with_reducible refine SinceOf.further ?_ _) | (with_reducible refine SinceOf.setCell ?_ (by first | exact Nat.le_refl _ | (simp; done) | omega | (simp; omega)) _))))).calls.mono ?_
    rintro e _ ⟨rfl, x1, rfl⟩
    go_wp2_with fail
    refine bodyPost_ret (by simp [results, Tryz.results82, go_sem, *]; try rfl) rfl ?_
    exact ⟨rfl, by (repeat (first | (with_reducible exact LaterOf.refl _) | (with_reducible refine LaterOf.alloc ?_ _) | (with_reducible refine LaterOf.drew ?_) | (with_reducible refine LaterOf.drewN ?_ _) | (with_reducible refine LaterOf.later ?_ _) | (with_reducible refine LaterOf.setCell ?_ (by first | exact Nat.le_refl _ | (simp; done) | omega | (simp; omega)) _)))⟩
  · rw [he hv] at B
    rw [hv] at V
    rw [if_pos rfl]
    generalize boxOf r = b at *
    obtain ⟨b0, b1, b2, b3⟩ := b
    simp only at B
    clear he hv
    go_enter Tryz.func82, Tryz.ntmps82
    go_wp2_with fail
    refine (V _ (by (repeat (first | (with_reducible exact SinceOf.refl _) | (with_reducible assumption) | (with_reducible refine SinceOf.alloc ?_ _) | (with_reducible refine SinceOf.drew ?_) | (with_reducible refine SinceOf.drewN ?_ _) | (with_reducible refine SinceOf.later ?_ _) | (with_reducible refine SinceOf.further ?_ _) | (with_reducible refine SinceOf.setCell ?_ (by first | exact Nat.le_refl _ | (simp; done) | omega | (simp; omega)) _))))).calls.mono ?_
    rintro e _ ⟨rfl, x1, rfl⟩
    clear V
    go_wp2_with fail
    refine (B _ (by (repeat (first | (with_reducible exact SinceOf.refl _) | (with_reducible assumption) | (with_reducible refine SinceOf.alloc ?_ _) | (with_reducible refine SinceOf.drew ?_) | (with_reducible refine SinceOf.drewN ?_ _) | (with_reducible refine SinceOf.later ?_ _) | (with_reducible refine SinceOf.further ?_ _) | (with_reducible refine SinceOf.setCell ?_ (by first | exact Nat.le_refl _ | (simp; done) | omega | (simp; omega)) _))))).calls.mono ?_
    rintro e _ ⟨rfl, x2, rfl⟩
    clear B
    go_wp2_with fail
    refine bodyPost_ret (by simp [results, Tryz.results82, go_sem, *]; try rfl) rfl ?_
    exact ⟨rfl, by (repeat (first | (with_reducible exact LaterOf.refl _) | (with_reducible refine LaterOf.alloc ?_ _) | (with_reducible refine LaterOf.drew ?_) | (with_reducible refine LaterOf.drewN ?_ _) | (with_reducible refine LaterOf.later ?_ _) | (with_reducible refine LaterOf.setCell ?_ (by first | exact Nat.le_refl _ | (simp; done) | omega | (simp; omega)) _)))⟩
theorem floor_eq {a b : Int} (hb : 0 < b) : -((-a + b - 1) / b) = a / b := by
  have h1 := Int.emod_nonneg a (show b ≠ 0 by omega)
  have h2 := Int.emod_lt_of_pos a hb
  have h3 := Int.mul_ediv_add_emod a b
  have : (-a + b - 1) / b = -(a / b) := by
    have e : -a + b - 1 = (b - 1 - a % b) + b * (-(a / b)) := by rw [Int.mul_neg]; omega
    rw [e, Int.add_mul_ediv_left _ _ (by omega), Int.ediv_eq_zero_of_lt (by omega) (by omega), Int.zero_add]
  omega
set_option maxRecDepth 100000 in
set_option maxHeartbeats 4000000 in
theorem floor_any (a b : Int) (w : World) (ha : -1000000000 ≤ a ∧ a ≤ 1000000000) (hb : 0 < b) (hb2 : b ≤ 100000) :
    Gives Tryz.prog 83 #[.int .i64 a, .int .i64 b] w (.int .i64 (a / b)) := by
  apply Gives.ret
  have a1 := ha.1
  have a2 := ha.2
  clear ha
  have hb0 : ¬ b = 0 := by omega
  by_cases h : a < 0
  · have g1 : decide (a < 0) = true := decide_eq_true h
    have e := floor_eq (a := a) hb
    have z1 : 0 ≤ -a := by omega
    have z2 : 0 ≤ -a + b := by omega
    have z3 : 0 ≤ -a + b - 1 := by omega
    have q1 : 0 ≤ (-a + b - 1) / b := Int.ediv_nonneg z3 (by omega)
    have q2 : (-a + b - 1) / b ≤ -a + b - 1 := Int.ediv_le_self b z3
    rw [← e]
    clear e
    go_enter Tryz.func83, Tryz.ntmps83
    go_wp2_with fail
    go_returns
    exact ⟨rfl, by (repeat (first | (with_reducible exact LaterOf.refl _) | (with_reducible refine LaterOf.alloc ?_ _) | (with_reducible refine LaterOf.drew ?_) | (with_reducible refine LaterOf.drewN ?_ _) | (with_reducible refine LaterOf.later ?_ _) | (with_reducible refine LaterOf.setCell ?_ (by first | exact Nat.le_refl _ | (simp; done) | omega | (simp; omega)) _)))⟩
  · have g1 : decide (a < 0) = false := decide_eq_false h
    have z1 : 0 ≤ a := by omega
    have q1 : 0 ≤ a / b := Int.ediv_nonneg z1 (by omega)
    have q2 : a / b ≤ a := Int.ediv_le_self b z1
    go_enter Tryz.func83, Tryz.ntmps83
    go_wp2_with fail
    go_returns
    exact ⟨rfl, by (repeat (first | (with_reducible exact LaterOf.refl _) | (with_reducible refine LaterOf.alloc ?_ _) | (with_reducible refine LaterOf.drew ?_) | (with_reducible refine LaterOf.drewN ?_ _) | (with_reducible refine LaterOf.later ?_ _) | (with_reducible refine LaterOf.setCell ?_ (by first | exact Nat.le_refl _ | (simp; done) | omega | (simp; omega)) _)))⟩
theorem floor_bd {a b : Int} (ha : -1000000000 ≤ a ∧ a ≤ 1000000000) (hb : 1 ≤ b) : -1000000000 ≤ a / b ∧ a / b ≤ 1000000000 := by
  constructor
  · refine (Int.le_ediv_iff_mul_le (by omega)).2 ?_
    have := Int.mul_le_mul_of_nonneg_left hb (show (0 : Int) ≤ 1000000000 by omega)
    omega
  · rcases Int.le_total 0 a with h | h
    · have := Int.ediv_le_self b h
      omega
    · have h2 : a / b ≤ 0 := by
        have := Int.ediv_le_ediv (show 0 < b by omega) h
        rw [Int.zero_ediv] at this
        exact this
      omega
set_option maxRecDepth 100000 in
set_option maxHeartbeats 16000000 in
theorem row_any (A : Option Addr) (c : Nat) (r : List (Int × Int)) (y : Int) (w : World) (h : IsVecs w A c r) (hlen : r.length ≤ 100000) :
    Gives Tryz.prog 71 #[.slice A r.length c, .int .i64 y] w (.tuple #[.int .i64 (rowM r y).1, .int .i64 (rowM r y).2.1, .bool (rowM r y).2.2]) := by
  apply Gives.ret
  have H := Lib.hid h
  clear h
  have B := fun W (hW : SinceOf w W) => box_any A c r W (H.out.of hW) hlen
  generalize hres : rowM r y = res
  have HR := Lib.hid hres
  clear hres
  cases hv : validB r
  · rw [hv] at B
    obtain rfl : res = (0, 0, false) := by rw [← HR.out]; unfold rowM; rw [hv, if_neg (by simp)]
    generalize boxV r = b at *
    obtain ⟨b0, b1, b2, b3⟩ := b
    simp only at B
    clear hv
    go_enter Tryz.func71, Tryz.ntmps71
    go_wp2_with fail
    refine (B _ (by (repeat (first | (with_reducible exact SinceOf.refl _) | (with_reducible assumption) | (with_reducible refine SinceOf.alloc ?_ _) | (with_reducible refine SinceOf.drew ?_) | (with_reducible refine SinceOf.drewN ?_ _) | (with_reducible refine SinceOf.later ?_ _) | (with_reducible refine SinceOf.further ?_ _) | (with_reducible refine SinceOf.setCell ?_ (by first | exact Nat.le_refl _ | (simp; done) | omega | (simp; omega)) _))))).calls.mono ?_
    rintro e _ ⟨rfl, x1, rfl⟩
    go_wp2_with fail
    go_returns
    exact ⟨rfl, by (repeat (first | (with_reducible exact LaterOf.refl _) | (with_reducible refine LaterOf.alloc ?_ _) | (with_reducible refine LaterOf.drew ?_) | (with_reducible refine LaterOf.drewN ?_ _) | (with_reducible refine LaterOf.later ?_ _) | (with_reducible refine LaterOf.setCell ?_ (by first | exact Nat.le_refl _ | (simp; done) | omega | (simp; omega)) _)))⟩
  have hC := validB_iff.1 hv
  have HC := Lib.hid hC
  have h3 := hC.1
  have hbx : boxV r = boxOf r := by unfold boxV; rw [hv]; rfl
  rw [hv, hbx] at B
  have hbi := boxOf_is (l := r) (by omega)
  have HB := Lib.hid (And.intro hbi hv)
  by_cases hy : (boxOf r).2.1 < y ∧ y < (boxOf r).2.2.2
  case neg =>
    obtain rfl : res = (0, 0, false) := by
      rw [← HR.out]
      unfold rowM rowR
      rw [if_neg hy, if_neg (by simp)]
    clear hbi hC hv hbx
    generalize boxOf r = b at *
    obtain ⟨b0, b1, b2, b3⟩ := b
    simp only at B hy
    by_cases h1 : y ≤ b1
    · have g1 : decide (y ≤ b1) = true := decide_eq_true h1
      clear hy h1
      go_enter Tryz.func71, Tryz.ntmps71
      go_wp2_with fail
      refine (B _ (by (repeat (first | (with_reducible exact SinceOf.refl _) | (with_reducible assumption) | (with_reducible refine SinceOf.alloc ?_ _) | (with_reducible refine SinceOf.drew ?_) | (with_reducible refine SinceOf.drewN ?_ _) | (with_reducible refine SinceOf.later ?_ _) | (with_reducible refine SinceOf.further ?_ _) | (with_reducible refine SinceOf.setCell ?_ (by first | exact Nat.le_refl _ | (simp; done) | omega | (simp; omega)) _))))).calls.mono ?_
      rintro e _ ⟨rfl, x1, rfl⟩
      go_wp2_with fail
      go_returns
      exact ⟨rfl, by (repeat (first | (with_reducible exact LaterOf.refl _) | (with_reducible refine LaterOf.alloc ?_ _) | (with_reducible refine LaterOf.drew ?_) | (with_reducible refine LaterOf.drewN ?_ _) | (with_reducible refine LaterOf.later ?_ _) | (with_reducible refine LaterOf.setCell ?_ (by first | exact Nat.le_refl _ | (simp; done) | omega | (simp; omega)) _)))⟩
    · have g1 : decide (y ≤ b1) = false := decide_eq_false h1
      have g2 : decide (b3 ≤ y) = true := decide_eq_true (by omega)
      clear hy h1
      go_enter Tryz.func71, Tryz.ntmps71
      go_wp2_with fail
      refine (B _ (by (repeat (first | (with_reducible exact SinceOf.refl _) | (with_reducible assumption) | (with_reducible refine SinceOf.alloc ?_ _) | (with_reducible refine SinceOf.drew ?_) | (with_reducible refine SinceOf.drewN ?_ _) | (with_reducible refine SinceOf.later ?_ _) | (with_reducible refine SinceOf.further ?_ _) | (with_reducible refine SinceOf.setCell ?_ (by first | exact Nat.le_refl _ | (simp; done) | omega | (simp; omega)) _))))).calls.mono ?_
      rintro e _ ⟨rfl, x1, rfl⟩
      go_wp2_with fail
      go_returns
      exact ⟨rfl, by (repeat (first | (with_reducible exact LaterOf.refl _) | (with_reducible refine LaterOf.alloc ?_ _) | (with_reducible refine LaterOf.drew ?_) | (with_reducible refine LaterOf.drewN ?_ _) | (with_reducible refine LaterOf.later ?_ _) | (with_reducible refine LaterOf.setCell ?_ (by first | exact Nat.le_refl _ | (simp; done) | omega | (simp; omega)) _)))⟩
  have hyn : -8000 ≤ y ∧ y ≤ 8000 := by
    obtain ⟨p1, m1, q1⟩ := hbi.at2
    obtain ⟨p2, m2, q2⟩ := hbi.at4
    have n1 := hC.2.2.1 _ m1
    have n2 := hC.2.2.1 _ m2
    unfold near at n1 n2
    omega
  have hy1 := hyn.1
  have hy2 := hyn.2
  have hrr : rowR r y = (rowLo r y r.length, rowHi r y r.length) := by unfold rowR; rw [if_pos hy]
  have hrm : rowM r y = if rowLo r y r.length ≤ rowHi r y r.length then (rowLo r y r.length, rowHi r y r.length, true) else (0, 0, false) := by
    unfold rowM
    rw [hrr, hv]
    simp
  rw [hrm] at HR
  have g1 : decide (y ≤ (boxOf r).2.1) = false := decide_eq_false (by omega)
  have g2 : decide ((boxOf r).2.2.2 ≤ y) = false := decide_eq_false (by omega)
  clear hbi hC hv hbx hyn hrr hrm hy
  generalize boxOf r = b at *
  obtain ⟨b0, b1, b2, b3⟩ := b
  simp only at B g1 g2
  have NX := fun (j : Nat) (hj : j < r.length) W (hW : SinceOf w W) => next_any A c r j W (H.out.of hW) (by omega) hlen (by omega)
  clear HB
  go_enter Tryz.func71, Tryz.ntmps71
  go_wp2_with fail
  refine (B _ (by (repeat (first | (with_reducible exact SinceOf.refl _) | (with_reducible assumption) | (with_reducible refine SinceOf.alloc ?_ _) | (with_reducible refine SinceOf.drew ?_) | (with_reducible refine SinceOf.drewN ?_ _) | (with_reducible refine SinceOf.later ?_ _) | (with_reducible refine SinceOf.further ?_ _) | (with_reducible refine SinceOf.setCell ?_ (by first | exact Nat.le_refl _ | (simp; done) | omega | (simp; omega)) _))))).calls.mono ?_
  rintro e _ ⟨rfl, x1, rfl⟩
  clear B
  go_wp2_with fail
  clear g1 g2
  go_loopg [4, 5, 36] r.length (fun gas s4 s5 s36 wr => ∃ k : Nat, k ≤ r.length ∧ r.length - k ≤ gas ∧ s4 = .int .i64 (rowLo r y k) ∧ s5 = .int .i64 (rowHi r y k) ∧ s36 = .int .i64 k ∧ LaterOf w wr)
  case atStart => exact ⟨0, by omega, by omega, rfl, rfl, rfl, by (repeat (first | (with_reducible exact LaterOf.refl _) | (with_reducible refine LaterOf.alloc ?_ _) | (with_reducible refine LaterOf.drew ?_) | (with_reducible refine LaterOf.drewN ?_ _) | (with_reducible refine LaterOf.later ?_ _) | (with_reducible refine LaterOf.setCell ?_ (by first | exact Nat.le_refl _ | (simp; done) | omega | (simp; omega)) _)))⟩
  case round =>
    obtain ⟨k, hk, hgas, rfl, rfl, rfl, ⟨z, rfl⟩⟩ := hrel
    by_cases hlt : k < r.length
    · have hr0 := H.out.of (w' := z.wd) (by (repeat (first | (with_reducible exact SinceOf.refl _) | (with_reducible assumption) | (with_reducible refine SinceOf.alloc ?_ _) | (with_reducible refine SinceOf.drew ?_) | (with_reducible refine SinceOf.drewN ?_ _) | (with_reducible refine SinceOf.later ?_ _) | (with_reducible refine SinceOf.further ?_ _) | (with_reducible refine SinceOf.setCell ?_ (by first | exact Nat.le_refl _ | (simp; done) | omega | (simp; omega)) _))))
      obtain ⟨g, off, rfl, hr⟩ := hr0.at_ (by omega)
      have hO := hr.there
      have a0 := hr.v0 k hlt
      have a1 := hr.v1 k hlt
      have ea : at0 r k = r[k] := at0_eq hlt
      have N1 := fun W (hW : SinceOf z.wd W) => NX k hlt W (SinceOf.trans (LaterOf.since ⟨z, rfl⟩) hW)
      have n1 := HC.out.2.2.1 _ (List.getElem_mem hlt)
      have n2 := HC.out.2.2.1 _ (rv_mem (r := r) (i := k + 1) (by omega))
      obtain ⟨e1, e2, e3, e4⟩ := edge_exact n1 n2
      have hE : edgeV r k = subP (rv r (k + 1)) r[k] := by unfold edgeV; rw [rv_lt hlt, ea]
      rw [← hE] at e1 e2 e3 e4
      have S1 := sub_any (rv r (k + 1)).1 (rv r (k + 1)).2 r[k].1 r[k].2
      rw [e1, e2] at S1
      have hrn : rowN r y k = (edgeV r k).1 * (y - r[k].2) := by unfold rowN; rw [ea]
      have hhi : rowHi r y (k + 1) = if 0 < (edgeV r k).2 then min (rowHi r y k) (r[k].1 + (rowN r y k - 1) / (edgeV r k).2) else rowHi r y k := by rw [← ea]; rfl
      have hlo : rowLo r y (k + 1) = if (edgeV r k).2 < 0 then max (rowLo r y k) (r[k].1 + -rowN r y k / -(edgeV r k).2 + 1) else rowLo r y k := by rw [← ea]; rfl
      unfold near at n1
      have mb := mul_bound (edgeV r k).1 (y - r[k].2) 16000 16000 (by omega) (by omega) e3 (by omega)
      rw [← hrn] at mb
      have HH := Lib.hid (And.intro hhi (And.intro hlo hrn))
      have ax0 := n1.1.1
      have ax1 := n1.1.2
      have ay0 := n1.2.1
      have ay1 := n1.2.2
      have dx0 := e3.1
      have dx1 := e3.2
      have dy0 := e4.1
      have dy1 := e4.2
      have mn0 := mb.1
      have mn1 := mb.2
      clear hhi hlo hrn ea hE e1 e2 e3 e4 n1 n2 mb hr hr0
      obtain ⟨nn, hnn⟩ : ∃ nn, nn = rowN r y k := ⟨_, rfl⟩
      rw [← hnn] at mn0 mn1 HH
      clear hnn
      generalize (edgeV r k).1 = ex at *
      generalize (edgeV r k).2 = ey at *
      generalize (rv r (k + 1)).1 = bx at *
      generalize (rv r (k + 1)).2 = by_ at *
      generalize r[k].1 = ax at *
      generalize r[k].2 = ay at *
      go_upto_region 8 with fail
      go_cut [11] (fun s11 wx => ∃ b11 : Nat, s11 = .pointer (some ⟨b11, 0, none⟩) ∧ VarV wx b11 (ex, ey) ∧ LaterOf (z.wd.alloc (.cells #[.int .i64 ax, .int .i64 ay] 24)) wx)
      case first =>
        go_region_held3 (fun w' => w'.cell? ⟨z.wd.heap.size, 0, none⟩ = some (.int .i64 ax) ∧ w'.cell? ⟨z.wd.heap.size, 1, none⟩ = some (.int .i64 ay)) ((simp [go_sem, *]))
          (first
            | (go_at_call 52; (with_reducible refine (N1 _ (by (repeat (first | (with_reducible exact SinceOf.refl _) | (with_reducible assumption) | (with_reducible refine SinceOf.alloc ?_ _) | (with_reducible refine SinceOf.drew ?_) | (with_reducible refine SinceOf.drewN ?_ _) | (with_reducible refine SinceOf.later ?_ _) | (with_reducible refine SinceOf.further ?_ _) | (with_reducible refine SinceOf.setCell ?_ (by first | exact Nat.le_refl _ | (simp; done) | omega | (simp; omega)) _))))).calls.mono ?_); rintro e _ ⟨rfl, y1, rfl⟩; have sz_y1 := y1.size; (try simp only [World.size_alloc, World.size_setCell, World.size_drew] at sz_y1); (try (have na_y1_0 : ¬ z.wd.heap.size + 1 = y1.wd.heap.size := by omega)); (try (have nb_y1_0 : ¬ y1.wd.heap.size = z.wd.heap.size + 1 := by omega)))
            | (go_at_call 53; (with_reducible refine (S1 _).calls.mono ?_); rintro e _ ⟨rfl, y2, rfl⟩; have sz_y2 := y2.size; (try simp only [World.size_alloc, World.size_setCell, World.size_drew] at sz_y2); (try (have na_y2_0 : ¬ z.wd.heap.size + 1 = y2.wd.heap.size := by omega)); (try (have nb_y2_0 : ¬ y2.wd.heap.size = z.wd.heap.size + 1 := by omega)); (try (have na_y2_1 : ¬ y1.wd.heap.size = y2.wd.heap.size := by omega)); (try (have nb_y2_1 : ¬ y2.wd.heap.size = y1.wd.heap.size := by omega))))
        all_goals
          go_wp2_with fail
          go_meet
          refine ⟨_, rfl, ?_, by (repeat (first | (with_reducible exact LaterOf.refl _) | (with_reducible refine LaterOf.alloc ?_ _) | (with_reducible refine LaterOf.drew ?_) | (with_reducible refine LaterOf.drewN ?_ _) | (with_reducible refine LaterOf.later ?_ _) | (with_reducible refine LaterOf.setCell ?_ (by first | exact Nat.le_refl _ | (simp; done) | omega | (simp; omega)) _)))⟩
          exact ⟨by simp [go_sem, *], by simp [go_sem, *], by simp [go_sem, *], by simp [go_sem, *], by (simp only [World.size_alloc, World.size_setCell, World.size_drew]; omega)⟩
      case rest =>
        obtain ⟨b11, rfl, v11, ⟨u, rfl⟩⟩ := hcut
        have v10 : VarV u.wd z.wd.heap.size (ax, ay) := (VarV.new z.wd ax ay 24).of (by (repeat (first | (with_reducible exact SinceOf.refl _) | (with_reducible assumption) | (with_reducible refine SinceOf.alloc ?_ _) | (with_reducible refine SinceOf.drew ?_) | (with_reducible refine SinceOf.drewN ?_ _) | (with_reducible refine SinceOf.later ?_ _) | (with_reducible refine SinceOf.further ?_ _) | (with_reducible refine SinceOf.setCell ?_ (by first | exact Nat.le_refl _ | (simp; done) | omega | (simp; omega)) _))))
        have c0 := v10.c0
        have c1 := v10.c1
        have d0 := v11.c0
        have d1 := v11.c1
        have o10 : Nonempty (Old u.wd z.wd.heap.size) := ⟨⟨v10.lt⟩⟩
        have o11 : Nonempty (Old u.wd b11) := ⟨⟨v11.lt⟩⟩
        simp only at c0 c1 d0 d1
        clear v10 v11 N1 S1
        have hwn : wrap64 (ex * (y - ay)) = nn := by rw [← HH.out.2.2]; exact i64.wrap (by unfold i64; omega)
        rcases Int.lt_trichotomy ey 0 with q | q | q
        · have g1 : decide (0 < ey) = false := decide_eq_false (by omega)
          have g2 : decide (ey < 0) = true := decide_eq_true q
          have FL := fun W => floor_any (-nn) (-ey) W (by omega) (by omega) (by omega)
          have q1 := floor_bd (a := -nn) (b := -ey) (by omega) (show 1 ≤ -ey by omega)
          have HQ := Lib.hid (show rowLo r y (k + 1) = max (rowLo r y k) (ax + -nn / -ey + 1) ∧ rowHi r y (k + 1) = rowHi r y k from ⟨by rw [HH.out.2.1, if_pos q], by rw [HH.out.1, if_neg (by omega)]⟩)
          clear q
          obtain ⟨fv, hfv⟩ : ∃ fv, fv = -nn / -ey := ⟨_, rfl⟩
          rw [← hfv] at FL HQ q1
          clear hfv
          have q2 := q1.1
          have q3 := q1.2
          clear q1
          generalize rowLo r y k = lo at *
          generalize rowHi r y k = hi at *
          have w1 : IntKind.i64.wrap (-nn) = -nn := IntWalk.i64_in _ (by omega)
          have w2 : IntKind.i64.wrap (-ey) = -ey := IntWalk.i64_in _ (by omega)
          have w3 : IntKind.i64.wrap (ax + fv) = ax + fv := IntWalk.i64_in _ (by omega)
          have w4 : IntKind.i64.wrap (ax + fv + 1) = ax + fv + 1 := IntWalk.i64_in _ (by omega)
          go_upto_region 13 with fail
          go_region_held3 (fun w' => w'.cell? ⟨z.wd.heap.size, 0, none⟩ = some (.int .i64 ax) ∧ w'.cell? ⟨b11, 1, none⟩ = some (.int .i64 ey)) ((simp [go_sem, *]))
            ((go_at_call 83; (with_reducible refine (FL _).calls.mono ?_); rintro e _ ⟨rfl, y1, rfl⟩))
          all_goals
            go_wp2_with fail
            go_roundg (r.length - (k + 1))
            case measure => omega
            case rel => exact ⟨k + 1, hlt, Nat.le_refl _, (by first | (rw [HQ.out.1]; done) | (rw [HQ.out.1, ← imax_eq]; done) | (rw [HQ.out.1]; rfl)), (by first | (rw [HQ.out.2]; done) | (rw [HQ.out.2, ← imin_eq]; done) | (rw [HQ.out.2]; rfl)), by go_num, by (repeat (first | (with_reducible exact LaterOf.refl _) | (with_reducible refine LaterOf.alloc ?_ _) | (with_reducible refine LaterOf.drew ?_) | (with_reducible refine LaterOf.drewN ?_ _) | (with_reducible refine LaterOf.later ?_ _) | (with_reducible refine LaterOf.setCell ?_ (by first | exact Nat.le_refl _ | (simp; done) | omega | (simp; omega)) _)))⟩
        · have g1 : decide (0 < ey) = false := decide_eq_false (by omega)
          have g2 : decide (ey < 0) = false := decide_eq_false (by omega)
          have HQ := Lib.hid (show rowLo r y (k + 1) = rowLo r y k ∧ rowHi r y (k + 1) = rowHi r y k from ⟨by rw [HH.out.2.1, if_neg (by omega)], by rw [HH.out.1, if_neg (by omega)]⟩)
          clear q
          generalize rowLo r y k = lo at *
          generalize rowHi r y k = hi at *
          go_wp2_with fail
          go_roundg (r.length - (k + 1))
          case measure => omega
          case rel => exact ⟨k + 1, hlt, Nat.le_refl _, by rw [HQ.out.1], by rw [HQ.out.2], by go_num, by (repeat (first | (with_reducible exact LaterOf.refl _) | (with_reducible refine LaterOf.alloc ?_ _) | (with_reducible refine LaterOf.drew ?_) | (with_reducible refine LaterOf.drewN ?_ _) | (with_reducible refine LaterOf.later ?_ _) | (with_reducible refine LaterOf.setCell ?_ (by first | exact Nat.le_refl _ | (simp; done) | omega | (simp; omega)) _)))⟩
        · have g1 : decide (0 < ey) = true := decide_eq_true q
          have FL := fun W => floor_any (nn - 1) ey W (by omega) (by omega) (by omega)
          have q1 := floor_bd (a := nn - 1) (b := ey) (by omega) (show 1 ≤ ey by omega)
          have HQ := Lib.hid (show rowLo r y (k + 1) = rowLo r y k ∧ rowHi r y (k + 1) = min (rowHi r y k) (ax + (nn - 1) / ey) from ⟨by rw [HH.out.2.1, if_neg (by omega)], by rw [HH.out.1, if_pos q]⟩)
          clear q
          obtain ⟨fv, hfv⟩ : ∃ fv, fv = (nn - 1) / ey := ⟨_, rfl⟩
          rw [← hfv] at FL HQ q1
          clear hfv
          have q2 := q1.1
          have q3 := q1.2
          clear q1
          generalize rowLo r y k = lo at *
          generalize rowHi r y k = hi at *
          have w1 : IntKind.i64.wrap (nn - 1) = nn - 1 := IntWalk.i64_in _ (by omega)
          have w3 : IntKind.i64.wrap (ax + fv) = ax + fv := IntWalk.i64_in _ (by omega)
          go_upto_region 11 with fail
          go_region_held3 (fun w' => w'.cell? ⟨z.wd.heap.size, 0, none⟩ = some (.int .i64 ax) ∧ w'.cell? ⟨b11, 1, none⟩ = some (.int .i64 ey)) ((simp [go_sem, *]))
            ((go_at_call 83; (with_reducible refine (FL _).calls.mono ?_); rintro e _ ⟨rfl, y1, rfl⟩))
          all_goals
            go_wp2_with fail
            go_roundg (r.length - (k + 1))
            case measure => omega
            case rel => exact ⟨k + 1, hlt, Nat.le_refl _, (by first | (rw [HQ.out.1]; done) | (rw [HQ.out.1, ← imax_eq]; done) | (rw [HQ.out.1]; rfl)), (by first | (rw [HQ.out.2]; done) | (rw [HQ.out.2, ← imin_eq]; done) | (rw [HQ.out.2]; rfl)), by go_num, by (repeat (first | (with_reducible exact LaterOf.refl _) | (with_reducible refine LaterOf.alloc ?_ _) | (with_reducible refine LaterOf.drew ?_) | (with_reducible refine LaterOf.drewN ?_ _) | (with_reducible refine LaterOf.later ?_ _) | (with_reducible refine LaterOf.setCell ?_ (by first | exact Nat.le_refl _ | (simp; done) | omega | (simp; omega)) _)))⟩
    · obtain rfl : k = r.length := by omega
      generalize rowLo r y r.length = lo at *
      generalize rowHi r y r.length = hi at *
      by_cases hlh : lo ≤ hi
      · have g1 : decide (hi < lo) = false := decide_eq_false (by omega)
        rw [if_pos hlh] at HR
        obtain rfl := HR.out
        clear hlh
        go_wp2_with fail
        go_returns
        exact ⟨rfl, by (repeat (first | (with_reducible exact LaterOf.refl _) | (with_reducible refine LaterOf.alloc ?_ _) | (with_reducible refine LaterOf.drew ?_) | (with_reducible refine LaterOf.drewN ?_ _) | (with_reducible refine LaterOf.later ?_ _) | (with_reducible refine LaterOf.setCell ?_ (by first | exact Nat.le_refl _ | (simp; done) | omega | (simp; omega)) _)))⟩
      · have g1 : decide (hi < lo) = true := decide_eq_true (by omega)
        rw [if_neg hlh] at HR
        obtain rfl := HR.out
        clear hlh
        go_wp2_with fail
        go_returns
        exact ⟨rfl, by (repeat (first | (with_reducible exact LaterOf.refl _) | (with_reducible refine LaterOf.alloc ?_ _) | (with_reducible refine LaterOf.drew ?_) | (with_reducible refine LaterOf.drewN ?_ _) | (with_reducible refine LaterOf.later ?_ _) | (with_reducible refine LaterOf.setCell ?_ (by first | exact Nat.le_refl _ | (simp; done) | omega | (simp; omega)) _)))⟩
end Go.Proofs.YtpbgimdbhgahkaaGreat
/- Layer 15: Row of the reference, Same, Few. -/
namespace Go.Proofs.YtpbgimdbhgahkaaGreat
open Go.RowKit Go.Sort
set_option linter.unusedVariables false
set_option linter.unusedSimpArgs false
attribute [local go_sem ↓] Go.wp_at_zero Go.wp_at_succ

set_option maxRecDepth 100000 in
theorem same08_any (A B : Option Addr) (c d : Nat) (l m : List (Int × Int)) (w : World) (hl : IsVecs w A c l) (hm : IsVecs w B d m) (hn : l.length < 4611686018427387904) (hn2 : m.length < 4611686018427387904) :
    Gives Tryz.prog 26 #[.slice A l.length c, .slice B m.length d] w (.bool (decide (l = m))) := by
  apply Gives.ret
  have S := fun W (hW : SinceOf w W) => refSame_any A B c d l m W (hl.of hW) (hm.of hW) hn hn2
  go_enter Tryz.func26, Tryz.ntmps26
  go_wp2_with fail
  refine (S _ (by (repeat (first | (with_reducible exact SinceOf.refl _) | (with_reducible assumption) | (with_reducible refine SinceOf.alloc ?_ _) | (with_reducible refine SinceOf.drew ?_) | (with_reducible refine SinceOf.drewN ?_ _) | (with_reducible refine SinceOf.later ?_ _) | (with_reducible refine SinceOf.further ?_ _) | (with_reducible refine SinceOf.setCell ?_ (by first | exact Nat.le_refl _ | (simp; done) | omega | (simp; omega)) _))))).calls.mono ?_
  rintro e _ ⟨rfl, x1, rfl⟩
  go_wp2_with fail
  go_returns
  exact ⟨rfl, by (repeat (first | (with_reducible exact LaterOf.refl _) | (with_reducible refine LaterOf.alloc ?_ _) | (with_reducible refine LaterOf.drew ?_) | (with_reducible refine LaterOf.drewN ?_ _) | (with_reducible refine LaterOf.later ?_ _) | (with_reducible refine LaterOf.setCell ?_ (by first | exact Nat.le_refl _ | (simp; done) | omega | (simp; omega)) _)))⟩
set_option maxRecDepth 100000 in
theorem few15_any (A : Option Addr) (n c : Nat) (w : World) : Gives Tryz.prog 17 #[.slice A n c] w (.bool (decide (n ≤ 20))) := by
  apply Gives.ret
  have e : decide ((n : Int) ≤ 20) = decide (n ≤ 20) := by
    by_cases h : n ≤ 20
    · rw [decide_eq_true h, decide_eq_true (by omega)]
    · rw [decide_eq_false h, decide_eq_false (by omega)]
  go_enter Tryz.func17, Tryz.ntmps17
  go_wp2_with fail
  go_returns
  exact ⟨by first | rfl | rw [e] | (simp only [e]), by (repeat (first | (with_reducible exact LaterOf.refl _) | (with_reducible refine LaterOf.alloc ?_ _) | (with_reducible refine LaterOf.drew ?_) | (with_reducible refine LaterOf.drewN ?_ _) | (with_reducible refine LaterOf.later ?_ _) | (with_reducible refine LaterOf.setCell ?_ (by first | exact Nat.le_refl _ | (simp; done) | omega | (simp; omega)) _)))⟩

/-- What the reference's row has found ahead of x. -/
def rowSt (L H x : Int) : Int × Int × Bool := if L ≤ H ∧ L < x then (L, min (x - 1) H, true) else (0, 0, false)
theorem rowSt_out {L H x : Int} (h : ¬ (L ≤ x ∧ x ≤ H)) : rowSt L H (x + 1) = rowSt L H x := by
  unfold rowSt
  by_cases c : L ≤ H ∧ L < x
  · rw [if_pos c, if_pos (by omega)]
    refine Prod.ext rfl (Prod.ext ?_ rfl)
    simp only
    omega
  · rw [if_neg c, if_neg (by omega)]
theorem rowSt_first {L H x : Int} (h : L ≤ x ∧ x ≤ H) (h2 : (rowSt L H x).2.2 = false) : rowSt L H (x + 1) = (x, x, true) := by
  unfold rowSt at *
  by_cases c : L ≤ H ∧ L < x
  · rw [if_pos c] at h2; cases h2
  · rw [if_pos (by omega)]
    refine Prod.ext ?_ (Prod.ext ?_ rfl)
    · simp only; omega
    · simp only; omega
theorem rowSt_next {L H x : Int} (h : L ≤ x ∧ x ≤ H) (h2 : (rowSt L H x).2.2 = true) : rowSt L H (x + 1) = ((rowSt L H x).1, x, true) := by
  unfold rowSt at *
  by_cases c : L ≤ H ∧ L < x
  · rw [if_pos c, if_pos (by omega)]
    refine Prod.ext rfl (Prod.ext ?_ rfl)
    simp only
    omega
  · rw [if_neg c] at h2; cases h2

end Go.Proofs.YtpbgimdbhgahkaaGreat
