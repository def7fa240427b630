/- Layer 15: Where and Place. -/
import Derived.Test.YtbienlhofkfdpaaMink2
import Derived.Test.YtbienlhofkfdpaaMink4
namespace Go.Proofs.Ytbienlhofkfdpaa
open Go.RowKit Go.Sort
set_option linter.unusedVariables false
set_option linter.unusedSimpArgs false
attribute [local go_sem ↓] Go.wp_at_zero Go.wp_at_succ

def turnP (a b c : Pt) : Int := turnI a.1 a.2 b.1 b.2 c.1 c.2
def placeL (r : List Pt) (p : Pt) : List Nat → Int → Int
  | [], out => out
  | i :: l, out => if turnP (at0 r i) (rv r (i + 1)) p = -1 then 0 else placeL r p l (if turnP (at0 r i) (rv r (i + 1)) p = 0 then 1 else out)
def placeV (r : List Pt) (p : Pt) : Int := placeL r p (List.range' 0 r.length) 2
def whereM (r : List Pt) (p : Pt) : Int := if validB r && inV p then placeV r p else 0
theorem range_step {n i : Nat} (h : i < n) : List.range' i (n - i) = i :: List.range' (i + 1) (n - (i + 1)) := by
  obtain ⟨m, hm⟩ : ∃ m, n - i = m + 1 := ⟨n - i - 1, by omega⟩
  rw [hm, show n - (i + 1) = m by omega]
  rfl
theorem turnP_range (a b c : Pt) : -1 ≤ turnP a b c ∧ turnP a b c ≤ 1 := turn_range _ _ _ _ _ _
theorem placeL_zero {r : List Pt} {p : Pt} : ∀ (l : List Nat) (out : Int), out ≠ 0 → (placeL r p l out = 0 ↔ ∃ i ∈ l, turnP (at0 r i) (rv r (i + 1)) p = -1)
  | [], out, h => by simp [placeL, h]
  | i :: l, out, h => by
    unfold placeL
    split
    · rename_i h1
      exact ⟨fun _ => ⟨i, by simp, h1⟩, fun _ => rfl⟩
    · rename_i h1
      rw [placeL_zero l _ (by split <;> omega)]
      constructor
      · rintro ⟨j, hj, h2⟩
        exact ⟨j, List.mem_cons_of_mem _ hj, h2⟩
      · rintro ⟨j, hj, h2⟩
        rcases List.mem_cons.1 hj with rfl | hj
        · exact absurd h2 h1
        · exact ⟨j, hj, h2⟩
theorem placeL_one {r : List Pt} {p : Pt} : ∀ (l : List Nat), placeL r p l 1 ≠ 2
  | [] => by unfold placeL; omega
  | i :: l => by
    unfold placeL
    split
    · omega
    · split <;> exact placeL_one l
theorem placeL_two {r : List Pt} {p : Pt} : ∀ (l : List Nat), placeL r p l 2 = 2 ↔ ∀ i ∈ l, turnP (at0 r i) (rv r (i + 1)) p = 1
  | [] => by simp [placeL]
  | i :: l => by
    unfold placeL
    have ht := turnP_range (at0 r i) (rv r (i + 1)) p
    split
    · rename_i h1
      constructor
      · intro h; omega
      · intro h; have := h i (by simp); omega
    · split
      · rename_i h1 h2
        constructor
        · intro h; exact absurd h (placeL_one l)
        · intro h; have := h i (by simp); omega
      · rename_i h1 h2
        rw [placeL_two l]
        constructor
        · intro h j hj
          rcases List.mem_cons.1 hj with rfl | hj
          · omega
          · exact h j hj
        · intro h j hj
          exact h j (List.mem_cons_of_mem _ hj)
theorem place_in {m : Int} (hm : m ≤ 100000) {r : List Pt} {p : Pt} (hr : ∀ q ∈ r, near m q) (hp : near m p) : placeV r p = 2 ↔ ∀ i, i < r.length → 0 < det (at0 r i) (rv r (i + 1)) p := by
  unfold placeV
  rw [placeL_two]
  have key : ∀ i, i < r.length → (turnP (at0 r i) (rv r (i + 1)) p = 1 ↔ 0 < det (at0 r i) (rv r (i + 1)) p) := fun i hi => by
    have e : turnP (at0 r i) (rv r (i + 1)) p = cmpi (det (at0 r i) (rv r (i + 1)) p) 0 := turn_near hm (hr _ (at0_mem hi)) (hr _ (rv_mem (by omega))) hp
    have h1 := turnP_range (at0 r i) (rv r (i + 1)) p
    have h2 := cmpi_pos (det (at0 r i) (rv r (i + 1)) p)
    omega
  constructor
  · intro h i hi
    exact (key i hi).1 (h i (by rw [List.mem_range'_1]; omega))
  · intro h i hi
    have hi' : i < r.length := by rw [List.mem_range'_1] at hi; omega
    exact (key i hi').2 (h i hi')
theorem place_out {m : Int} (hm : m ≤ 100000) {r : List Pt} {p : Pt} (hr : ∀ q ∈ r, near m q) (hp : near m p) : placeV r p ≠ 0 ↔ ∀ i, i < r.length → 0 ≤ det (at0 r i) (rv r (i + 1)) p := by
  unfold placeV
  rw [Ne, placeL_zero _ _ (by omega)]
  have key : ∀ i, i < r.length → (turnP (at0 r i) (rv r (i + 1)) p = -1 ↔ det (at0 r i) (rv r (i + 1)) p < 0) := fun i hi => by
    have e : turnP (at0 r i) (rv r (i + 1)) p = cmpi (det (at0 r i) (rv r (i + 1)) p) 0 := turn_near hm (hr _ (at0_mem hi)) (hr _ (rv_mem (by omega))) hp
    have h1 := turnP_range (at0 r i) (rv r (i + 1)) p
    have h2 := cmpi_lt (det (at0 r i) (rv r (i + 1)) p)
    omega
  constructor
  · intro h i hi
    rcases Int.lt_or_le (det (at0 r i) (rv r (i + 1)) p) 0 with q | q
    · exact absurd ⟨i, by rw [List.mem_range'_1]; omega, (key i hi).2 q⟩ h
    · exact q
  · rintro h ⟨i, hi, h2⟩
    have hi' : i < r.length := by rw [List.mem_range'_1] at hi; omega
    have := h i hi'
    have := (key i hi').1 h2
    omega
set_option maxRecDepth 100000 in
set_option maxHeartbeats 8000000 in
theorem where_any (A : Option Addr) (c : Nat) (r : List (Int × Int)) (px py : Int) (w : World) (h : IsVecs w A c r) (hlen : r.length ≤ 100000) :
    Gives Try.prog 26 #[.slice A r.length c, vv px py] w (.int .i64 (whereM r (px, py))) := by
  apply Gives.ret
  have H := Lib.hid h
  clear h
  have W1 := within_any px py 8000
  rw [show withinB px py 8000 = inV (px, py) from rfl] at W1
  unfold whereM
  cases hin : inV (px, py)
  · rw [hin] at W1
    rw [Bool.and_false, if_neg (by decide)]
    clear hin
    go_enter Try.func26, Try.ntmps26
    go_wp2_with fail
    refine (W1 _).calls.mono ?_
    rintro e _ ⟨rfl, x1, rfl⟩
    go_wp2_with fail
    go_returns
    exact ⟨rfl, by (repeat (first | (with_reducible exact LaterOf.refl _) | (with_reducible refine LaterOf.alloc ?_ _) | (with_reducible refine LaterOf.drew ?_) | (with_reducible refine LaterOf.drewN ?_ _) | (with_reducible refine LaterOf.later ?_ _) | (with_reducible refine LaterOf.setCell ?_ (by first | exact Nat.le_refl _ | (simp; done) | omega | (simp; omega)) _)))⟩
  rw [hin] at W1
  rw [Bool.and_true]
  clear hin
  have V := fun W (hW : SinceOf w W) => valid_any A c r W (H.out.of hW) (by omega)
  have NX := fun (j : Nat) (hj : j < r.length) W (hW : SinceOf w W) => next_any A c r j W (H.out.of hW) (by omega) hlen (by omega)
  generalize validB r = vr at *
  have hv0 : placeV r (px, py) = 0 → (if vr = true then placeV r (px, py) else 0) = 0 := fun h => by rw [h]; split <;> rfl
  generalize hres : (if vr = true then placeV r (px, py) else 0) = res at *
  have HR := Lib.hid (And.intro hres hv0)
  clear hres hv0
  go_enter Try.func26, Try.ntmps26
  go_wp2_with fail
  refine (W1 _).calls.mono ?_
  rintro e _ ⟨rfl, x1, rfl⟩
  clear W1
  have v1 : VarV x1.wd w.heap.size (px, py) := (VarV.new w px py 37).of (by (repeat (first | (with_reducible exact SinceOf.refl _) | (with_reducible assumption) | (with_reducible refine SinceOf.alloc ?_ _) | (with_reducible refine SinceOf.drew ?_) | (with_reducible refine SinceOf.drewN ?_ _) | (with_reducible refine SinceOf.later ?_ _) | (with_reducible refine SinceOf.further ?_ _) | (with_reducible refine SinceOf.setCell ?_ (by first | exact Nat.le_refl _ | (simp; done) | omega | (simp; omega)) _))))
  obtain ⟨v, hv1⟩ : LaterOf w x1.wd := by (repeat (first | (with_reducible exact LaterOf.refl _) | (with_reducible refine LaterOf.alloc ?_ _) | (with_reducible refine LaterOf.drew ?_) | (with_reducible refine LaterOf.drewN ?_ _) | (with_reducible refine LaterOf.later ?_ _) | (with_reducible refine LaterOf.setCell ?_ (by first | exact Nat.le_refl _ | (simp; done) | omega | (simp; omega)) _)))
  rw [hv1] at v1 ⊢
  clear hv1 x1
  have HV := Lib.hid v1
  clear v1
  go_wp2_with fail
  go_loopg [5, 13] r.length (fun gas s5 s13 wr => ∃ (i : Nat) (out : Int), i ≤ r.length ∧ r.length - i ≤ gas ∧ s5 = .int .i64 out ∧ s13 = .int .i64 i ∧ VarV wr w.heap.size (px, py) ∧ LaterOf w wr ∧ placeV r (px, py) = placeL r (px, py) (List.range' i (r.length - i)) out)
  case atStart => exact ⟨0, 2, by omega, by omega, rfl, rfl, HV.out, by (repeat (first | (with_reducible exact LaterOf.refl _) | (with_reducible refine LaterOf.alloc ?_ _) | (with_reducible refine LaterOf.drew ?_) | (with_reducible refine LaterOf.drewN ?_ _) | (with_reducible refine LaterOf.later ?_ _) | (with_reducible refine LaterOf.setCell ?_ (by first | exact Nat.le_refl _ | (simp; done) | omega | (simp; omega)) _))), rfl⟩
  case round =>
    obtain ⟨i, out, hi, hgas, rfl, rfl, e1, ⟨u, rfl⟩, hall⟩ := hrel
    by_cases hlt : i < r.length
    · rw [range_step hlt, placeL] at hall
      have hr0 := H.out.of (w' := u.wd) (by (repeat (first | (with_reducible exact SinceOf.refl _) | (with_reducible assumption) | (with_reducible refine SinceOf.alloc ?_ _) | (with_reducible refine SinceOf.drew ?_) | (with_reducible refine SinceOf.drewN ?_ _) | (with_reducible refine SinceOf.later ?_ _) | (with_reducible refine SinceOf.further ?_ _) | (with_reducible refine SinceOf.setCell ?_ (by first | exact Nat.le_refl _ | (simp; done) | omega | (simp; omega)) _))))
      obtain ⟨g, off, rfl, hr⟩ := hr0.at_ (by omega)
      have hO := hr.there
      have a0 := hr.v0 i hlt
      have a1 := hr.v1 i hlt
      have ea : at0 r i = r[i] := at0_eq hlt
      rw [ea] at hall
      have N1 := fun W (hW : SinceOf u.wd W) => NX i hlt W (SinceOf.trans (LaterOf.since ⟨u, rfl⟩) hW)
      have T := turn_any r[i].1 r[i].2 (rv r (i + 1)).1 (rv r (i + 1)).2 px py
      have hT : turnP r[i] (rv r (i + 1)) (px, py) = turnI r[i].1 r[i].2 (rv r (i + 1)).1 (rv r (i + 1)).2 px py := rfl
      have htr := turnP_range r[i] (rv r (i + 1)) (px, py)
      rw [← hT] at T
      have d0 := e1.c0
      have d1 := e1.c1
      have hU1 : Nonempty (Old u.wd w.heap.size) := ⟨⟨e1.lt⟩⟩
      simp only at d0 d1
      have HE := Lib.hid (And.intro hall e1)
      clear hall e1 hr hr0 ea hT
      generalize turnP r[i] (rv r (i + 1)) (px, py) = t at *
      generalize r[i].1 = xa at *
      generalize r[i].2 = ya at *
      generalize (rv r (i + 1)).1 = xb at *
      generalize (rv r (i + 1)).2 = yb at *
      have t1 := htr.1
      have t2 := htr.2
      clear htr
      by_cases h1 : t = -1
      · have g1 : (t == -1) = true := by simpa using h1
        have HH := Lib.hid (HR.out.2 (by rw [HE.out.1, if_pos h1]))
        clear h1
        go_wp2_with fail
        refine region_later (by kernel_rfl) (by kernel_rfl) ?_
        repeat (go_big_quiet_step ((first | with_reducible refine Gives.later (N1 _ (by (repeat (first | (with_reducible exact SinceOf.refl _) | (with_reducible assumption) | (with_reducible refine SinceOf.alloc ?_ _) | (with_reducible refine SinceOf.drew ?_) | (with_reducible refine SinceOf.drewN ?_ _) | (with_reducible refine SinceOf.later ?_ _) | (with_reducible refine SinceOf.further ?_ _) | (with_reducible refine SinceOf.setCell ?_ (by first | exact Nat.le_refl _ | (simp; done) | omega | (simp; omega)) _))))) | with_reducible refine Gives.later (T _))))
        refine wpQuiet_nil ?_
        rintro _ ⟨z4, rfl⟩
        go_wp2_with fail
        go_returns
        exact ⟨by rw [HH.out]; rfl, by (repeat (first | (with_reducible exact LaterOf.refl _) | (with_reducible refine LaterOf.alloc ?_ _) | (with_reducible refine LaterOf.drew ?_) | (with_reducible refine LaterOf.drewN ?_ _) | (with_reducible refine LaterOf.later ?_ _) | (with_reducible refine LaterOf.setCell ?_ (by first | exact Nat.le_refl _ | (simp; done) | omega | (simp; omega)) _)))⟩
      · have g1 : (t == -1) = false := by simpa using h1
        by_cases h2 : t = 0
        · have g2 : (t == 0) = true := by simpa using h2
          have HH := Lib.hid (show placeV r (px, py) = placeL r (px, py) (List.range' (i + 1) (r.length - (i + 1))) 1 by rw [HE.out.1, if_neg h1, if_pos h2])
          clear h1 h2
          go_wp2_with fail
          refine region_later (by kernel_rfl) (by kernel_rfl) ?_
          repeat (go_big_quiet_step ((first | with_reducible refine Gives.later (N1 _ (by (repeat (first | (with_reducible exact SinceOf.refl _) | (with_reducible assumption) | (with_reducible refine SinceOf.alloc ?_ _) | (with_reducible refine SinceOf.drew ?_) | (with_reducible refine SinceOf.drewN ?_ _) | (with_reducible refine SinceOf.later ?_ _) | (with_reducible refine SinceOf.further ?_ _) | (with_reducible refine SinceOf.setCell ?_ (by first | exact Nat.le_refl _ | (simp; done) | omega | (simp; omega)) _))))) | with_reducible refine Gives.later (T _))))
          refine wpQuiet_nil ?_
          rintro _ ⟨z4, rfl⟩
          go_wp2_with fail
          go_roundg (r.length - (i + 1))
          case measure => omega
          case rel => exact ⟨i + 1, 1, hlt, Nat.le_refl _, rfl, by go_num, HE.out.2.of (by (repeat (first | (with_reducible exact SinceOf.refl _) | (with_reducible assumption) | (with_reducible refine SinceOf.alloc ?_ _) | (with_reducible refine SinceOf.drew ?_) | (with_reducible refine SinceOf.drewN ?_ _) | (with_reducible refine SinceOf.later ?_ _) | (with_reducible refine SinceOf.further ?_ _) | (with_reducible refine SinceOf.setCell ?_ (by first | exact Nat.le_refl _ | (simp; done) | omega | (simp; omega)) _)))), by (repeat (first | (with_reducible exact LaterOf.refl _) | (with_reducible refine LaterOf.alloc ?_ _) | (with_reducible refine LaterOf.drew ?_) | (with_reducible refine LaterOf.drewN ?_ _) | (with_reducible refine LaterOf.later ?_ _) | (with_reducible refine LaterOf.setCell ?_ (by first | exact Nat.le_refl _ | (simp; done) | omega | (simp; omega)) _))), HH.out⟩
        · have g2 : (t == 0) = false := by simpa using h2
          have HH := Lib.hid (show placeV r (px, py) = placeL r (px, py) (List.range' (i + 1) (r.length - (i + 1))) out by rw [HE.out.1, if_neg h1, if_neg h2])
          clear h1 h2
          go_wp2_with fail
          refine region_later (by kernel_rfl) (by kernel_rfl) ?_
          repeat (go_big_quiet_step ((first | with_reducible refine Gives.later (N1 _ (by (repeat (first | (with_reducible exact SinceOf.refl _) | (with_reducible assumption) | (with_reducible refine SinceOf.alloc ?_ _) | (with_reducible refine SinceOf.drew ?_) | (with_reducible refine SinceOf.drewN ?_ _) | (with_reducible refine SinceOf.later ?_ _) | (with_reducible refine SinceOf.further ?_ _) | (with_reducible refine SinceOf.setCell ?_ (by first | exact Nat.le_refl _ | (simp; done) | omega | (simp; omega)) _))))) | with_reducible refine Gives.later (T _))))
          refine wpQuiet_nil ?_
          rintro _ ⟨z4, rfl⟩
          go_wp2_with fail
          go_roundg (r.length - (i + 1))
          case measure => omega
          case rel => exact ⟨i + 1, out, hlt, Nat.le_refl _, rfl, by go_num, HE.out.2.of (by (repeat (first | (with_reducible exact SinceOf.refl _) | (with_reducible assumption) | (with_reducible refine SinceOf.alloc ?_ _) | (with_reducible refine SinceOf.drew ?_) | (with_reducible refine SinceOf.drewN ?_ _) | (with_reducible refine SinceOf.later ?_ _) | (with_reducible refine SinceOf.further ?_ _) | (with_reducible refine SinceOf.setCell ?_ (by first | exact Nat.le_refl _ | (simp; done) | omega | (simp; omega)) _)))), by (repeat (first | (with_reducible exact LaterOf.refl _) | (with_reducible refine LaterOf.alloc ?_ _) | (with_reducible refine LaterOf.drew ?_) | (with_reducible refine LaterOf.drewN ?_ _) | (with_reducible refine LaterOf.later ?_ _) | (with_reducible refine LaterOf.setCell ?_ (by first | exact Nat.le_refl _ | (simp; done) | omega | (simp; omega)) _))), HH.out⟩
    · obtain rfl : i = r.length := by omega
      rw [Nat.sub_self] at hall
      have HA := Lib.hid (show placeV r (px, py) = out from hall)
      clear hall e1
      cases vr
      · obtain rfl : res = 0 := HR.out.1.symm
        go_wp2_with fail
        refine (V _ (by (repeat (first | (with_reducible exact SinceOf.refl _) | (with_reducible assumption) | (with_reducible refine SinceOf.alloc ?_ _) | (with_reducible refine SinceOf.drew ?_) | (with_reducible refine SinceOf.drewN ?_ _) | (with_reducible refine SinceOf.later ?_ _) | (with_reducible refine SinceOf.further ?_ _) | (with_reducible refine SinceOf.setCell ?_ (by first | exact Nat.le_refl _ | (simp; done) | omega | (simp; omega)) _))))).calls.mono ?_
        rintro e _ ⟨rfl, x2, rfl⟩
        go_wp2_with fail
        go_returns
        exact ⟨rfl, by (repeat (first | (with_reducible exact LaterOf.refl _) | (with_reducible refine LaterOf.alloc ?_ _) | (with_reducible refine LaterOf.drew ?_) | (with_reducible refine LaterOf.drewN ?_ _) | (with_reducible refine LaterOf.later ?_ _) | (with_reducible refine LaterOf.setCell ?_ (by first | exact Nat.le_refl _ | (simp; done) | omega | (simp; omega)) _)))⟩
      · obtain rfl : out = res := HA.out.symm.trans HR.out.1
        go_wp2_with fail
        refine (V _ (by (repeat (first | (with_reducible exact SinceOf.refl _) | (with_reducible assumption) | (with_reducible refine SinceOf.alloc ?_ _) | (with_reducible refine SinceOf.drew ?_) | (with_reducible refine SinceOf.drewN ?_ _) | (with_reducible refine SinceOf.later ?_ _) | (with_reducible refine SinceOf.further ?_ _) | (with_reducible refine SinceOf.setCell ?_ (by first | exact Nat.le_refl _ | (simp; done) | omega | (simp; omega)) _))))).calls.mono ?_
        rintro e _ ⟨rfl, x2, rfl⟩
        go_wp2_with fail
        go_returns
        exact ⟨rfl, by (repeat (first | (with_reducible exact LaterOf.refl _) | (with_reducible refine LaterOf.alloc ?_ _) | (with_reducible refine LaterOf.drew ?_) | (with_reducible refine LaterOf.drewN ?_ _) | (with_reducible refine LaterOf.later ?_ _) | (with_reducible refine LaterOf.setCell ?_ (by first | exact Nat.le_refl _ | (simp; done) | omega | (simp; omega)) _)))⟩
set_option maxRecDepth 100000 in
set_option maxHeartbeats 8000000 in
theorem refPlace_any (A : Option Addr) (c : Nat) (r : List (Int × Int)) (px py : Int) (w : World) (h : IsVecs w A c r) (hlen : r.length ≤ 100000) :
    Gives Try.prog 73 #[.slice A r.length c, vv px py] w (.int .i64 (placeV r (px, py))) := by
  apply Gives.ret
  have H := Lib.hid h
  clear h
  generalize hres : placeV r (px, py) = res
  have HR := Lib.hid hres
  clear hres
  have HV := Lib.hid (VarV.new w px py 37)
  go_enter Try.func73, Try.ntmps73
  go_wp2_with fail
  go_loopg [5, 6] r.length (fun gas s5 s6 wr => ∃ (i : Nat) (out : Int), i ≤ r.length ∧ r.length - i ≤ gas ∧ s5 = .int .i64 out ∧ s6 = .int .i64 i ∧ VarV wr w.heap.size (px, py) ∧ LaterOf w wr ∧ placeV r (px, py) = placeL r (px, py) (List.range' i (r.length - i)) out)
  case atStart => exact ⟨0, 2, by omega, by omega, rfl, rfl, HV.out, by (repeat (first | (with_reducible exact LaterOf.refl _) | (with_reducible refine LaterOf.alloc ?_ _) | (with_reducible refine LaterOf.drew ?_) | (with_reducible refine LaterOf.drewN ?_ _) | (with_reducible refine LaterOf.later ?_ _) | (with_reducible refine LaterOf.setCell ?_ (by first | exact Nat.le_refl _ | (simp; done) | omega | (simp; omega)) _))), rfl⟩
  case round =>
    obtain ⟨i, out, hi, hgas, rfl, rfl, e1, ⟨u, rfl⟩, hall⟩ := hrel
    by_cases hlt : i < r.length
    · rw [range_step hlt, placeL] at hall
      have hr0 := H.out.of (w' := u.wd) (by (repeat (first | (with_reducible exact SinceOf.refl _) | (with_reducible assumption) | (with_reducible refine SinceOf.alloc ?_ _) | (with_reducible refine SinceOf.drew ?_) | (with_reducible refine SinceOf.drewN ?_ _) | (with_reducible refine SinceOf.later ?_ _) | (with_reducible refine SinceOf.further ?_ _) | (with_reducible refine SinceOf.setCell ?_ (by first | exact Nat.le_refl _ | (simp; done) | omega | (simp; omega)) _))))
      obtain ⟨g, off, rfl, hr⟩ := hr0.at_ (by omega)
      have hO := hr.there
      have hq : (i + 1) % r.length < r.length := Nat.mod_lt _ (by omega)
      have a0 := hr.v0 i hlt
      have a1 := hr.v1 i hlt
      have b0 := hr.v0 _ hq
      have b1 := hr.v1 _ hq
      have hqt : Int.tmod ((i : Int) + 1) (r.length : Int) = (((i + 1) % r.length : Nat) : Int) := by rw [Int.tmod_eq_emod_of_nonneg (by omega), Int.natCast_emod, Int.natCast_add]; rfl
      have ea : at0 r i = r[i] := at0_eq hlt
      have eb : rv r (i + 1) = r[(i + 1) % r.length] := at0_eq hq
      rw [ea, eb] at hall
      have T := refTurn_any r[i].1 r[i].2 r[(i + 1) % r.length].1 r[(i + 1) % r.length].2 px py
      have hT : turnP r[i] r[(i + 1) % r.length] (px, py) = turnI r[i].1 r[i].2 r[(i + 1) % r.length].1 r[(i + 1) % r.length].2 px py := rfl
      rw [← hT] at T
      have d0 := e1.c0
      have d1 := e1.c1
      have hU1 : Nonempty (Old u.wd w.heap.size) := ⟨⟨e1.lt⟩⟩
      simp only at d0 d1
      have HE := Lib.hid (And.intro hall e1)
      clear hall e1 hr hr0 ea eb hT
      generalize turnP r[i] r[(i + 1) % r.length] (px, py) = t at *
      generalize r[(i + 1) % r.length].1 = xb at *
      generalize r[(i + 1) % r.length].2 = yb at *
      generalize (i + 1) % r.length = q at *
      generalize r[i].1 = xa at *
      generalize r[i].2 = ya at *
      have hn0 : ¬ (r.length : Int) = 0 := by omega
      have hw1 : IntKind.i64.wrap ((i : Int) + 1) = (i : Int) + 1 := IntWalk.i64_in _ (by omega)
      by_cases h1 : t = -1
      · have g1 : (t == -1) = true := by simpa using h1
        have HH := Lib.hid (show res = 0 by rw [← HR.out, HE.out.1, if_pos h1])
        clear h1
        go_wp2_with fail
        refine region_later (by kernel_rfl) (by kernel_rfl) ?_
        repeat (go_big_quiet_step ((with_reducible refine Gives.later (T _))))
        refine wpQuiet_nil ?_
        rintro _ ⟨z4, rfl⟩
        clear hw1 hqt
        go_wp2_with fail
        go_returns
        exact ⟨by rw [HH.out]; rfl, by (repeat (first | (with_reducible exact LaterOf.refl _) | (with_reducible refine LaterOf.alloc ?_ _) | (with_reducible refine LaterOf.drew ?_) | (with_reducible refine LaterOf.drewN ?_ _) | (with_reducible refine LaterOf.later ?_ _) | (with_reducible refine LaterOf.setCell ?_ (by first | exact Nat.le_refl _ | (simp; done) | omega | (simp; omega)) _)))⟩
      · have g1 : (t == -1) = false := by simpa using h1
        by_cases h2 : t = 0
        · have g2 : (t == 0) = true := by simpa using h2
          have HH := Lib.hid (show placeV r (px, py) = placeL r (px, py) (List.range' (i + 1) (r.length - (i + 1))) 1 by rw [HE.out.1, if_neg h1, if_pos h2])
          clear h1 h2
          go_wp2_with fail
          refine region_later (by kernel_rfl) (by kernel_rfl) ?_
          repeat (go_big_quiet_step ((with_reducible refine Gives.later (T _))))
          refine wpQuiet_nil ?_
          rintro _ ⟨z4, rfl⟩
          clear hw1 hqt
          go_wp2_with fail
          go_roundg (r.length - (i + 1))
          case measure => omega
          case rel => exact ⟨i + 1, 1, hlt, Nat.le_refl _, rfl, by go_num, HE.out.2.of (by (repeat (first | (with_reducible exact SinceOf.refl _) | (with_reducible assumption) | (with_reducible refine SinceOf.alloc ?_ _) | (with_reducible refine SinceOf.drew ?_) | (with_reducible refine SinceOf.drewN ?_ _) | (with_reducible refine SinceOf.later ?_ _) | (with_reducible refine SinceOf.further ?_ _) | (with_reducible refine SinceOf.setCell ?_ (by first | exact Nat.le_refl _ | (simp; done) | omega | (simp; omega)) _)))), by (repeat (first | (with_reducible exact LaterOf.refl _) | (with_reducible refine LaterOf.alloc ?_ _) | (with_reducible refine LaterOf.drew ?_) | (with_reducible refine LaterOf.drewN ?_ _) | (with_reducible refine LaterOf.later ?_ _) | (with_reducible refine LaterOf.setCell ?_ (by first | exact Nat.le_refl _ | (simp; done) | omega | (simp; omega)) _))), HH.out⟩
        · have g2 : (t == 0) = false := by simpa using h2
          have HH := Lib.hid (show placeV r (px, py) = placeL r (px, py) (List.range' (i + 1) (r.length - (i + 1))) out by rw [HE.out.1, if_neg h1, if_neg h2])
          clear h1 h2
          go_wp2_with fail
          refine region_later (by kernel_rfl) (by kernel_rfl) ?_
          repeat (go_big_quiet_step ((with_reducible refine Gives.later (T _))))
          refine wpQuiet_nil ?_
          rintro _ ⟨z4, rfl⟩
          clear hw1 hqt
          go_wp2_with fail
          go_roundg (r.length - (i + 1))
          case measure => omega
          case rel => exact ⟨i + 1, out, hlt, Nat.le_refl _, rfl, by go_num, HE.out.2.of (by (repeat (first | (with_reducible exact SinceOf.refl _) | (with_reducible assumption) | (with_reducible refine SinceOf.alloc ?_ _) | (with_reducible refine SinceOf.drew ?_) | (with_reducible refine SinceOf.drewN ?_ _) | (with_reducible refine SinceOf.later ?_ _) | (with_reducible refine SinceOf.further ?_ _) | (with_reducible refine SinceOf.setCell ?_ (by first | exact Nat.le_refl _ | (simp; done) | omega | (simp; omega)) _)))), by (repeat (first | (with_reducible exact LaterOf.refl _) | (with_reducible refine LaterOf.alloc ?_ _) | (with_reducible refine LaterOf.drew ?_) | (with_reducible refine LaterOf.drewN ?_ _) | (with_reducible refine LaterOf.later ?_ _) | (with_reducible refine LaterOf.setCell ?_ (by first | exact Nat.le_refl _ | (simp; done) | omega | (simp; omega)) _))), HH.out⟩
    · obtain rfl : i = r.length := by omega
      rw [Nat.sub_self] at hall
      obtain rfl : out = res := (show placeV r (px, py) = out from hall).symm.trans HR.out
      clear hall e1
      go_wp2_with fail
      go_returns
      exact ⟨rfl, by (repeat (first | (with_reducible exact LaterOf.refl _) | (with_reducible refine LaterOf.alloc ?_ _) | (with_reducible refine LaterOf.drew ?_) | (with_reducible refine LaterOf.drewN ?_ _) | (with_reducible refine LaterOf.later ?_ _) | (with_reducible refine LaterOf.setCell ?_ (by first | exact Nat.le_refl _ | (simp; done) | omega | (simp; omega)) _)))⟩
set_option maxRecDepth 100000 in
set_option maxHeartbeats 4000000 in
theorem refWhere_any (A : Option Addr) (c : Nat) (r : List (Int × Int)) (px py : Int) (w : World) (h : IsVecs w A c r) (hlen : r.length ≤ 100000) :
    Gives Try.prog 84 #[.slice A r.length c, vv px py] w (.int .i64 (whereM r (px, py))) := by
  apply Gives.ret
  have H := Lib.hid h
  clear h
  have W1 := refWithin_any px py 8000
  rw [show withinB px py 8000 = inV (px, py) from rfl] at W1
  have V := fun W (hW : SinceOf w W) => refValid_any A c r W (H.out.of hW) (by omega)
  have PL := fun W (hW : SinceOf w W) => refPlace_any A c r px py W (H.out.of hW) hlen
  unfold whereM
  generalize inV (px, py) = b at *
  generalize validB r = v at *
  generalize placeV r (px, py) = q at *
  cases v
  · go_enter Try.func84, Try.ntmps84
    go_wp2_with fail
    refine (V _ (by (repeat (first | (with_reducible exact SinceOf.refl _) | (with_reducible assumption) | (with_reducible refine SinceOf.alloc ?_ _) | (with_reducible refine SinceOf.drew ?_) | (with_reducible refine SinceOf.drewN ?_ _) | (with_reducible refine SinceOf.later ?_ _) | (with_reducible refine SinceOf.further ?_ _) | (with_reducible refine SinceOf.setCell ?_ (by first | exact Nat.le_refl _ | (simp; done) | omega | (simp; omega)) _))))).calls.mono ?_
    rintro e _ ⟨rfl, x2, rfl⟩
    go_wp2_with fail
    go_returns
    exact ⟨rfl, by (repeat (first | (with_reducible exact LaterOf.refl _) | (with_reducible refine LaterOf.alloc ?_ _) | (with_reducible refine LaterOf.drew ?_) | (with_reducible refine LaterOf.drewN ?_ _) | (with_reducible refine LaterOf.later ?_ _) | (with_reducible refine LaterOf.setCell ?_ (by first | exact Nat.le_refl _ | (simp; done) | omega | (simp; omega)) _)))⟩
  cases b
  · go_enter Try.func84, Try.ntmps84
    go_wp2_with fail
    refine (V _ (by (repeat (first | (with_reducible exact SinceOf.refl _) | (with_reducible assumption) | (with_reducible refine SinceOf.alloc ?_ _) | (with_reducible refine SinceOf.drew ?_) | (with_reducible refine SinceOf.drewN ?_ _) | (with_reducible refine SinceOf.later ?_ _) | (with_reducible refine SinceOf.further ?_ _) | (with_reducible refine SinceOf.setCell ?_ (by first | exact Nat.le_refl _ | (simp; done) | omega | (simp; omega)) _))))).calls.mono ?_
    rintro e _ ⟨rfl, x2, rfl⟩
    go_wp2_with fail
    refine (W1 _).calls.mono ?_
    rintro e _ ⟨rfl, x3, rfl⟩
    go_wp2_with fail
    go_returns
    exact ⟨rfl, by (repeat (first | (with_reducible exact LaterOf.refl _) | (with_reducible refine LaterOf.alloc ?_ _) | (with_reducible refine LaterOf.drew ?_) | (with_reducible refine LaterOf.drewN ?_ _) | (with_reducible refine LaterOf.later ?_ _) | (with_reducible refine LaterOf.setCell ?_ (by first | exact Nat.le_refl _ | (simp; done) | omega | (simp; omega)) _)))⟩
  · go_enter Try.func84, Try.ntmps84
    go_wp2_with fail
    refine (V _ (by (repeat (first | (with_reducible exact SinceOf.refl _) | (with_reducible assumption) | (with_reducible refine SinceOf.alloc ?_ _) | (with_reducible refine SinceOf.drew ?_) | (with_reducible refine SinceOf.drewN ?_ _) | (with_reducible refine SinceOf.later ?_ _) | (with_reducible refine SinceOf.further ?_ _) | (with_reducible refine SinceOf.setCell ?_ (by first | exact Nat.le_refl _ | (simp; done) | omega | (simp; omega)) _))))).calls.mono ?_
    rintro e _ ⟨rfl, x2, rfl⟩
    go_wp2_with fail
    refine (W1 _).calls.mono ?_
    rintro e _ ⟨rfl, x3, rfl⟩
    go_wp2_with fail
    refine (PL _ (by (repeat (first | (with_reducible exact SinceOf.refl _) | (with_reducible assumption) | (with_reducible refine SinceOf.alloc ?_ _) | (with_reducible refine SinceOf.drew ?_) | (with_reducible refine SinceOf.drewN ?_ _) | (with_reducible refine SinceOf.later ?_ _) | (with_reducible refine SinceOf.further ?_ _) | (with_reducible refine SinceOf.setCell ?_ (by first | exact Nat.le_refl _ | (simp; done) | omega | (simp; omega)) _))))).calls.mono ?_
    rintro e _ ⟨rfl, x4, rfl⟩
    go_wp2_with fail
    go_returns
    exact ⟨rfl, by (repeat (first | (with_reducible exact LaterOf.refl _) | (with_reducible refine LaterOf.alloc ?_ _) | (with_reducible refine LaterOf.drew ?_) | (with_reducible refine LaterOf.drewN ?_ _) | (with_reducible refine LaterOf.later ?_ _) | (with_reducible refine LaterOf.setCell ?_ (by first | exact Nat.le_refl _ | (simp; done) | omega | (simp; omega)) _)))⟩
end Go.Proofs.Ytbienlhofkfdpaa
