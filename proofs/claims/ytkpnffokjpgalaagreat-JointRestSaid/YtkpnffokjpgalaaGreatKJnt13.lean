/- Layer 46: Meet and Share of package seg. -/
import Derived.Test.YtkpnffokjpgalaaGreatKJnt12
namespace Go.Proofs.YtkpnffokjpgalaaGreat
set_option linter.unusedVariables false
set_option linter.unusedSimpArgs false
open Go.RowKit Go.Sort
attribute [local go_sem ↓] Go.wp_at_zero Go.wp_at_succ

set_option maxRecDepth 100000 in
theorem segMeet_any (s t : SegP) (w : World) : Gives Tryz.prog 79 #[sgv s, sgv t] w (.int .i64 (meetP s t).1) := by
  apply Gives.ret
  have M := meet_any s t
  generalize meetP s t = K at *
  obtain ⟨k, ⟨sa, sb⟩, sc, sd⟩ := K
  simp only at *
  have RF : ∀ (x y d : Int) (W : World), Sem.run Tryz.prog (Instr.field 98 (cm k x y d ((sa, sb), sc, sd)) 0) W = .ok (.int .i64 k) W := fun _ _ _ _ => by kernel_rfl
  go_enter Tryz.func79, Tryz.ntmps79
  go_wp2_with fail
  refine (M _).mono ?_
  rintro e _ ⟨x, y, d, rfl, ⟨x1, rfl⟩⟩
  go_wp2_with fail
  go_returns
  exact ⟨rfl, by (repeat (first | (with_reducible exact LaterOf.refl _) | (with_reducible refine LaterOf.alloc ?_ _) | (with_reducible refine LaterOf.drew ?_) | (with_reducible refine LaterOf.drewN ?_ _) | (with_reducible refine LaterOf.later ?_ _) | (with_reducible refine LaterOf.setCell ?_ (by first | exact Nat.le_refl _ | (simp; done) | omega | (simp; omega)) _)))⟩
set_option maxRecDepth 100000 in
theorem segShare_any (s t : SegP) (w : World) : Gives Tryz.prog 55 #[sgv s, sgv t] w (.tuple #[sgv (meetP s t).2, .bool (decide ((meetP s t).1 = 3))]) := by
  apply Gives.ret
  have M := meet_any s t
  generalize meetP s t = K at *
  obtain ⟨k, ⟨sa, sb⟩, sc, sd⟩ := K
  simp only at *
  obtain ⟨bb, hbb⟩ : ∃ b, b = decide (k = 3) := ⟨_, rfl⟩
  have hb2 : (k == 3) = bb := by rw [hbb]; exact Bool.eq_iff_iff.2 (by simp)
  rw [← hbb]
  clear hbb
  go_enter Tryz.func55, Tryz.ntmps55
  go_wp2_with fail
  refine (M _).mono ?_
  rintro e _ ⟨x, y, d, rfl, ⟨x1, rfl⟩⟩
  have sz_x1 := x1.size; (try simp only [World.size_alloc, World.size_setCell, World.size_drew] at sz_x1); (try (have na_x1_0 : ¬ w.heap.size + 1 + 1 = x1.wd.heap.size := by omega)); (try (have nb_x1_0 : ¬ x1.wd.heap.size = w.heap.size + 1 + 1 := by omega))
  go_wp2_with fail
  go_big_region
  all_goals
    go_wp2_with fail
    go_returns
    exact ⟨rfl, by (repeat (first | (with_reducible exact LaterOf.refl _) | (with_reducible refine LaterOf.alloc ?_ _) | (with_reducible refine LaterOf.drew ?_) | (with_reducible refine LaterOf.drewN ?_ _) | (with_reducible refine LaterOf.later ?_ _) | (with_reducible refine LaterOf.setCell ?_ (by first | exact Nat.le_refl _ | (simp; done) | omega | (simp; omega)) _)))⟩
end Go.Proofs.YtkpnffokjpgalaaGreat
/- Layer 46: near, next, last and area of package ring. -/
namespace Go.Proofs.YtkpnffokjpgalaaGreat
set_option linter.unusedVariables false
set_option linter.unusedSimpArgs false
open Go.RowKit Go.Sort
attribute [local go_sem ↓] Go.wp_at_zero Go.wp_at_succ

def inR (p : Pt) : Bool := withinB p.1 p.2 2000
theorem nearR_any (l : List Pt) : nearR l = !l.any (fun p => !inR p) := by
  unfold nearR
  induction l with
  | nil => rfl
  | cons p l ih => rw [List.all_cons, List.any_cons, ih, Bool.not_or, Bool.not_not]; rfl
set_option maxRecDepth 100000 in
set_option maxHeartbeats 2000000 in
theorem ringNearFn_any (x y : Int) (w : World) : Gives Tryz.prog 100 #[vv x y] w (.bool (!inR (x, y))) := by
  apply Gives.ret
  have W1 := within_any x y 2000
  rw [show withinB x y 2000 = inR (x, y) from rfl] at W1
  generalize inR (x, y) = b at *
  go_enter Tryz.func100, Tryz.ntmps100
  go_wp2_with fail
  refine (W1 _).calls.mono ?_
  rintro e _ ⟨rfl, x1, rfl⟩
  go_wp2_with fail
  go_returns
  exact ⟨rfl, by (repeat (first | (with_reducible exact LaterOf.refl _) | (with_reducible refine LaterOf.alloc ?_ _) | (with_reducible refine LaterOf.drew ?_) | (with_reducible refine LaterOf.drewN ?_ _) | (with_reducible refine LaterOf.later ?_ _) | (with_reducible refine LaterOf.setCell ?_ (by first | exact Nat.le_refl _ | (simp; done) | omega | (simp; omega)) _)))⟩
theorem any_dropR (p : Pt → Bool) {l : List Pt} {k : Nat} (h : k < l.length) : (l.drop k).any p = (p l[k] || (l.drop (k + 1)).any p) := by
  rw [List.drop_eq_getElem_cons h, List.any_cons]
set_option maxRecDepth 100000 in
set_option maxHeartbeats 2000000 in
theorem indexRing_any (A : Option Addr) (c : Nat) (l : List (Int × Int)) (w : World) (h : IsVecs w A c l) (hlen : l.length < 4611686018427387904) :
    Calls Tryz.prog 131 #[.slice A l.length c, .func (.func 100) #[] #[]] w fun e w' => ∃ r : Int, e = .returned (.int .i64 r) ∧ decide (0 ≤ r) = l.any (fun p => !inR p) ∧ LaterOf w w' := by
  have H := Lib.hid h
  clear h
  go_enter Tryz.func131, Tryz.ntmps131
  go_wp2_with fail
  go_loopg [8] l.length (fun gas s8 wr => ∃ k : Nat, k ≤ l.length ∧ l.length - k ≤ gas ∧ s8 = .int .i64 k ∧ LaterOf w wr ∧ l.any (fun p => !inR p) = (l.drop k).any (fun p => !inR p))
  case atStart => exact ⟨0, by omega, by omega, rfl, by (repeat (first | (with_reducible exact LaterOf.refl _) | (with_reducible refine LaterOf.alloc ?_ _) | (with_reducible refine LaterOf.drew ?_) | (with_reducible refine LaterOf.drewN ?_ _) | (with_reducible refine LaterOf.later ?_ _) | (with_reducible refine LaterOf.setCell ?_ (by first | exact Nat.le_refl _ | (simp; done) | omega | (simp; omega)) _))), by rw [List.drop_zero]⟩
  case round =>
    obtain ⟨k, hk, hgas, rfl, ⟨z, rfl⟩, hany⟩ := hrel
    by_cases hlt : k < l.length
    · have hc := (H.out.of (LaterOf.since ⟨z, rfl⟩))
      obtain ⟨g, off, rfl, hr⟩ := hc.at_ (by omega)
      have hO := hr.there
      have k0 := hr.v0 k hlt
      have k1 := hr.v1 k hlt
      have C := ringNearFn_any l[k].1 l[k].2
      rw [any_dropR _ hlt] at hany
      rw [show (l[k].1, l[k].2) = l[k] from rfl] at C
      generalize inR l[k] = b at *
      generalize l[k].1 = px at *
      generalize l[k].2 = py at *
      clear hc hr
      cases b
      · rw [Bool.not_false] at C hany
        rw [Bool.true_or] at hany
        have HA := Lib.hid hany
        clear hany
        go_wp2_with fail
        refine (C _).calls.mono ?_
        rintro e _ ⟨rfl, x1, rfl⟩
        go_wp2_with fail
        go_returns
        exact ⟨(k : Int), rfl, by rw [HA.out]; simp, by (repeat (first | (with_reducible exact LaterOf.refl _) | (with_reducible refine LaterOf.alloc ?_ _) | (with_reducible refine LaterOf.drew ?_) | (with_reducible refine LaterOf.drewN ?_ _) | (with_reducible refine LaterOf.later ?_ _) | (with_reducible refine LaterOf.setCell ?_ (by first | exact Nat.le_refl _ | (simp; done) | omega | (simp; omega)) _)))⟩
      · rw [Bool.not_true] at C hany
        rw [Bool.false_or] at hany
        have HA := Lib.hid hany
        clear hany
        go_wp2_with fail
        refine (C _).calls.mono ?_
        rintro e _ ⟨rfl, x1, rfl⟩
        go_wp2_with fail
        go_roundg (l.length - (k + 1))
        case measure => omega
        case rel => exact ⟨k + 1, hlt, Nat.le_refl _, by go_num, by (repeat (first | (with_reducible exact LaterOf.refl _) | (with_reducible refine LaterOf.alloc ?_ _) | (with_reducible refine LaterOf.drew ?_) | (with_reducible refine LaterOf.drewN ?_ _) | (with_reducible refine LaterOf.later ?_ _) | (with_reducible refine LaterOf.setCell ?_ (by first | exact Nat.le_refl _ | (simp; done) | omega | (simp; omega)) _))), HA.out⟩
    · have hkl : k = l.length := by omega
      rw [hkl, List.drop_length] at hany
      have HA := Lib.hid hany
      clear hany
      go_wp2_with fail
      go_returns
      exact ⟨-1, rfl, by rw [HA.out]; rfl, by (repeat (first | (with_reducible exact LaterOf.refl _) | (with_reducible refine LaterOf.alloc ?_ _) | (with_reducible refine LaterOf.drew ?_) | (with_reducible refine LaterOf.drewN ?_ _) | (with_reducible refine LaterOf.later ?_ _) | (with_reducible refine LaterOf.setCell ?_ (by first | exact Nat.le_refl _ | (simp; done) | omega | (simp; omega)) _)))⟩
set_option maxRecDepth 100000 in
set_option maxHeartbeats 2000000 in
theorem ringNear_any (A : Option Addr) (c : Nat) (l : List (Int × Int)) (w : World) (h : IsVecs w A c l) (hlen : l.length < 4611686018427387904) :
    Gives Tryz.prog 74 #[.slice A l.length c] w (.bool (nearR l)) := by
  have hC : Gives Tryz.prog 99 #[.slice A l.length c, .func (.func 100) #[] #[]] w (.bool (l.any (fun p => !inR p))) := by
    apply Gives.ret
    have C := indexRing_any A c l w h hlen
    generalize l.any (fun p => !inR p) = b at *
    clear h
    go_enter Tryz.func99, Tryz.ntmps99
    go_wp2_with fail
    refine C.mono ?_
    rintro e _ ⟨r, rfl, hr, x1, rfl⟩
    go_wp2_with fail
    go_returns
    exact ⟨rfl, by (repeat (first | (with_reducible exact LaterOf.refl _) | (with_reducible refine LaterOf.alloc ?_ _) | (with_reducible refine LaterOf.drew ?_) | (with_reducible refine LaterOf.drewN ?_ _) | (with_reducible refine LaterOf.later ?_ _) | (with_reducible refine LaterOf.setCell ?_ (by first | exact Nat.le_refl _ | (simp; done) | omega | (simp; omega)) _)))⟩
  apply Gives.ret
  rw [nearR_any l]
  generalize l.any (fun p => !inR p) = b at *
  clear h
  go_enter Tryz.func74, Tryz.ntmps74
  go_wp2_with fail
  refine hC.calls.mono ?_
  rintro e _ ⟨rfl, x1, rfl⟩
  go_wp2_with fail
  go_returns
  exact ⟨rfl, by (repeat (first | (with_reducible exact LaterOf.refl _) | (with_reducible refine LaterOf.alloc ?_ _) | (with_reducible refine LaterOf.drew ?_) | (with_reducible refine LaterOf.drewN ?_ _) | (with_reducible refine LaterOf.later ?_ _) | (with_reducible refine LaterOf.setCell ?_ (by first | exact Nat.le_refl _ | (simp; done) | omega | (simp; omega)) _)))⟩
set_option maxRecDepth 100000 in
set_option maxHeartbeats 2000000 in
theorem ringNext_any (A : Option Addr) (c : Nat) (r : List (Int × Int)) (j : Nat) (w : World) (h : IsVecs w A c r) (h0 : 0 < r.length) (hlen : r.length ≤ 100000) (hj : j ≤ 100000) :
    Gives Tryz.prog 78 #[.slice A r.length c, .int .i64 j] w (vv (rv r (j + 1)).1 (rv r (j + 1)).2) := by
  apply Gives.ret
  have hq : (j + 1) % r.length < r.length := Nat.mod_lt _ h0
  have hqt : Int.tmod ((j : Int) + 1) (r.length : Int) = (((j + 1) % r.length : Nat) : Int) := by rw [Int.tmod_eq_emod_of_nonneg (by omega), Int.natCast_emod, Int.natCast_add]; rfl
  have hqe : ((j : Int) + 1) % (r.length : Int) = (((j + 1) % r.length : Nat) : Int) := by rw [Int.natCast_emod, Int.natCast_add]; rfl
  obtain ⟨g, off, rfl, hr⟩ := h.at_ h0
  have hO := hr.there
  have a0 := hr.v0 _ hq
  have a1 := hr.v1 _ hq
  have e : rv r (j + 1) = r[(j + 1) % r.length] := at0_eq hq
  rw [e]
  generalize r[(j + 1) % r.length] = p at *
  generalize (j + 1) % r.length = q at *
  obtain ⟨px, py⟩ := p
  simp only at a0 a1
  have hn0 : ¬ (r.length : Int) = 0 := by omega
  clear h hr e
  go_enter Tryz.func78, Tryz.ntmps78
  go_wp2_with fail
  refine bodyPost_ret (by simp [results, Tryz.results78, go_sem, *]; try rfl) rfl ?_
  exact ⟨rfl, by (repeat (first | (with_reducible exact LaterOf.refl _) | (with_reducible refine LaterOf.alloc ?_ _) | (with_reducible refine LaterOf.drew ?_) | (with_reducible refine LaterOf.drewN ?_ _) | (with_reducible refine LaterOf.later ?_ _) | (with_reducible refine LaterOf.setCell ?_ (by first | exact Nat.le_refl _ | (simp; done) | omega | (simp; omega)) _)))⟩
set_option maxRecDepth 100000 in
set_option maxHeartbeats 2000000 in
theorem ringLast_any (A : Option Addr) (c : Nat) (r : List (Int × Int)) (j : Nat) (w : World) (h : IsVecs w A c r) (h0 : 0 < r.length) (hlen : r.length ≤ 100000) (hj : j ≤ 100000) :
    Gives Tryz.prog 77 #[.slice A r.length c, .int .i64 j] w (vv (rv r (j + r.length - 1)).1 (rv r (j + r.length - 1)).2) := by
  apply Gives.ret
  have hq : (j + r.length - 1) % r.length < r.length := Nat.mod_lt _ h0
  have hqs : ((j : Int) + (r.length : Int)) - 1 = ((j + r.length - 1 : Nat) : Int) := by omega
  have hqt : Int.tmod (((j : Int) + (r.length : Int)) - 1) (r.length : Int) = (((j + r.length - 1) % r.length : Nat) : Int) := by rw [hqs, Int.tmod_eq_emod_of_nonneg (by omega), Int.natCast_emod]
  have hqe : (((j : Int) + (r.length : Int)) - 1) % (r.length : Int) = (((j + r.length - 1) % r.length : Nat) : Int) := by rw [hqs, Int.natCast_emod]
  obtain ⟨g, off, rfl, hr⟩ := h.at_ h0
  have hO := hr.there
  have a0 := hr.v0 _ hq
  have a1 := hr.v1 _ hq
  have e : rv r (j + r.length - 1) = r[(j + r.length - 1) % r.length] := at0_eq hq
  rw [e]
  generalize r[(j + r.length - 1) % r.length] = p at *
  generalize (j + r.length - 1) % r.length = q at *
  obtain ⟨px, py⟩ := p
  simp only at a0 a1
  have hn0 : ¬ (r.length : Int) = 0 := by omega
  have hrn : ¬ r = [] := fun e => by (rw [e] at h0; simp at h0)
  clear h hr e hqs
  go_enter Tryz.func77, Tryz.ntmps77
  go_wp2_with fail
  refine bodyPost_ret (by simp [results, Tryz.results77, go_sem, *]; try rfl) rfl ?_
  exact ⟨rfl, by (repeat (first | (with_reducible exact LaterOf.refl _) | (with_reducible refine LaterOf.alloc ?_ _) | (with_reducible refine LaterOf.drew ?_) | (with_reducible refine LaterOf.drewN ?_ _) | (with_reducible refine LaterOf.later ?_ _) | (with_reducible refine LaterOf.setCell ?_ (by first | exact Nat.le_refl _ | (simp; done) | omega | (simp; omega)) _)))⟩
/-- The doubled area, edge by edge. -/
def areaT (r : List Pt) (i : Nat) : Int := (at0 r i).1 * (rv r (i + 1)).2 - (at0 r i).2 * (rv r (i + 1)).1
def areaS (r : List Pt) : Nat → Int
  | 0 => 0
  | i + 1 => areaS r i + areaT r i
theorem areaS_sum (r : List Pt) : ∀ n, areaS r n = ((List.range n).map (areaT r)).sum
  | 0 => rfl
  | n + 1 => by rw [areaS, areaS_sum r n, List.range_succ, List.map_append, List.sum_append]; simp
theorem area2V_S (r : List Pt) : area2V r = areaS r r.length := (areaS_sum r r.length).symm
def near2 (p : Pt) : Prop := (-2000 ≤ p.1 ∧ p.1 ≤ 2000) ∧ (-2000 ≤ p.2 ∧ p.2 ≤ 2000)
theorem inR_near {p : Pt} (h : withinB p.1 p.2 2000 = true) : near2 p := by
  unfold withinB at h
  rw [wneg_in (x := 2000) (by omega)] at h
  simp only [Bool.and_eq_true, decide_eq_true_eq] at h
  unfold near2
  omega
theorem nearR_all {r : List Pt} (h : nearR r = true) : ∀ p ∈ r, near2 p := fun p hp => inR_near (List.all_eq_true.1 h p hp)
theorem areaT_near {r : List Pt} (h : ∀ p ∈ r, near2 p) {i : Nat} (hi : i < r.length) : -8000000 ≤ areaT r i ∧ areaT r i ≤ 8000000 ∧ crossI (at0 r i).1 (at0 r i).2 (rv r (i + 1)).1 (rv r (i + 1)).2 = areaT r i := by
  have h1 := h _ (at0_mem hi)
  have h2 := h _ (rv_mem (r := r) (i := i + 1) (by omega))
  unfold near2 at h1 h2
  have m1 : ((at0 r i).1 * (rv r (i + 1)).2).natAbs ≤ 4000000 := by
    rw [Int.natAbs_mul]; exact Nat.mul_le_mul (show _ ≤ 2000 by omega) (show _ ≤ 2000 by omega)
  have m2 : ((at0 r i).2 * (rv r (i + 1)).1).natAbs ≤ 4000000 := by
    rw [Int.natAbs_mul]; exact Nat.mul_le_mul (show _ ≤ 2000 by omega) (show _ ≤ 2000 by omega)
  rw [crossI_eq]
  unfold areaT wrap64
  omega
theorem areaS_near {r : List Pt} (h : ∀ p ∈ r, near2 p) : ∀ i, i ≤ r.length → (areaS r i).natAbs ≤ i * 8000000
  | 0, _ => Nat.zero_le _
  | i + 1, hi => by
    have h1 := areaS_near h i (by omega)
    have h2 := areaT_near h (i := i) (by omega)
    unfold areaS
    omega
set_option maxRecDepth 100000 in
set_option maxHeartbeats 8000000 in
theorem ringArea_any (A : Option Addr) (c : Nat) (r : List (Int × Int)) (w : World) (h : IsVecs w A c r) (hlen : r.length ≤ 100) (hn : ∀ p ∈ r, near2 p) :
    Gives Tryz.prog 75 #[.slice A r.length c] w (.int .i64 (area2V r)) := by
  apply Gives.ret
  have NX := fun (j : Nat) (hj : j < r.length) W (hW : SinceOf w W) => ringNext_any A c r j W (h.of hW) (by omega) (by omega) (by omega)
  have AN := fun i hi => areaS_near hn i hi
  have AT := fun i hi => areaT_near hn (i := i) hi
  have H := Lib.hid (And.intro h (And.intro NX (And.intro AN AT)))
  clear h NX AN AT hn
  rw [area2V_S]
  go_enter Tryz.func75, Tryz.ntmps75
  go_wp2_with fail
  go_loopg [3, 8] r.length (fun gas s3 s8 wr => ∃ (i : Nat) (n : Int), i ≤ r.length ∧ r.length - i ≤ gas ∧ s3 = .int .i64 n ∧ n = areaS r i ∧ s8 = .int .i64 i ∧ LaterOf w wr)
  case atStart => exact ⟨0, 0, by omega, by omega, rfl, rfl, rfl, by (repeat (first | (with_reducible exact LaterOf.refl _) | (with_reducible refine LaterOf.alloc ?_ _) | (with_reducible refine LaterOf.drew ?_) | (with_reducible refine LaterOf.drewN ?_ _) | (with_reducible refine LaterOf.later ?_ _) | (with_reducible refine LaterOf.setCell ?_ (by first | exact Nat.le_refl _ | (simp; done) | omega | (simp; omega)) _)))⟩
  case round =>
    obtain ⟨i, n, hi, hgas, rfl, hn, rfl, ⟨z, rfl⟩⟩ := hrel
    by_cases hlt : i < r.length
    · have hr0 := H.out.1.of (w' := z.wd) (by (repeat (first | (with_reducible exact SinceOf.refl _) | (with_reducible assumption) | (with_reducible refine SinceOf.alloc ?_ _) | (with_reducible refine SinceOf.drew ?_) | (with_reducible refine SinceOf.drewN ?_ _) | (with_reducible refine SinceOf.later ?_ _) | (with_reducible refine SinceOf.further ?_ _) | (with_reducible refine SinceOf.setCell ?_ (by first | exact Nat.le_refl _ | (simp; done) | omega | (simp; omega)) _))))
      obtain ⟨g, off, rfl, hr⟩ := hr0.at_ (by omega)
      have hO := hr.there
      have a0 := hr.v0 i hlt
      have a1 := hr.v1 i hlt
      have N1 := fun W (hW : SinceOf z.wd W) => H.out.2.1 i hlt W (SinceOf.trans (LaterOf.since ⟨z, rfl⟩) hW)
      have C1 := cross_any r[i].1 r[i].2 (rv r (i + 1)).1 (rv r (i + 1)).2
      obtain ⟨t1, t2, t3⟩ := H.out.2.2.2 i hlt
      have t4 := H.out.2.2.1 i hi
      have t5 := H.out.2.2.1 (i + 1) hlt
      rw [show areaS r (i + 1) = areaS r i + areaT r i from rfl] at t5
      rw [show at0 r i = r[i] from at0_eq hlt] at t3
      rw [t3] at C1
      rw [← hn] at t4 t5
      have hs : areaS r (i + 1) = n + areaT r i := by rw [hn]; rfl
      have HS := Lib.hid (And.intro hs hn)
      generalize areaT r i = t at *
      generalize (rv r (i + 1)).1 = bx at *
      generalize (rv r (i + 1)).2 = by_ at *
      generalize r[i].1 = ax at *
      generalize r[i].2 = ay at *
      have w1 : IntKind.i64.wrap (n + t) = n + t := IntWalk.i64_in _ (by omega)
      clear hr hr0 hs hn t3 t4 t5 t1 t2
      go_wp2_with fail
      refine region_later (by kernel_rfl) (by kernel_rfl) ?_
      repeat (go_big_quiet_step ((first | (with_reducible refine Gives.later (N1 _ (by (repeat (first | (with_reducible exact SinceOf.refl _) | (with_reducible assumption) | (with_reducible refine SinceOf.alloc ?_ _) | (with_reducible refine SinceOf.drew ?_) | (with_reducible refine SinceOf.drewN ?_ _) | (with_reducible refine SinceOf.later ?_ _) | (with_reducible refine SinceOf.further ?_ _) | (with_reducible refine SinceOf.setCell ?_ (by first | exact Nat.le_refl _ | (simp; done) | omega | (simp; omega)) _)))))) | (with_reducible refine Gives.later (C1 _)))))
      refine wpQuiet_nil ?_
      rintro _ ⟨z4, rfl⟩
      go_wp2_with fail
      go_roundg (r.length - (i + 1))
      case measure => omega
      case rel => exact ⟨i + 1, n + t, hlt, Nat.le_refl _, rfl, HS.out.1.symm, by go_num, by (repeat (first | (with_reducible exact LaterOf.refl _) | (with_reducible refine LaterOf.alloc ?_ _) | (with_reducible refine LaterOf.drew ?_) | (with_reducible refine LaterOf.drewN ?_ _) | (with_reducible refine LaterOf.later ?_ _) | (with_reducible refine LaterOf.setCell ?_ (by first | exact Nat.le_refl _ | (simp; done) | omega | (simp; omega)) _)))⟩
    · obtain rfl : i = r.length := by omega
      subst hn
      go_wp2_with fail
      go_returns
      exact ⟨rfl, by (repeat (first | (with_reducible exact LaterOf.refl _) | (with_reducible refine LaterOf.alloc ?_ _) | (with_reducible refine LaterOf.drew ?_) | (with_reducible refine LaterOf.drewN ?_ _) | (with_reducible refine LaterOf.later ?_ _) | (with_reducible refine LaterOf.setCell ?_ (by first | exact Nat.le_refl _ | (simp; done) | omega | (simp; omega)) _)))⟩
end Go.Proofs.YtkpnffokjpgalaaGreat
/- Layer 46: Edges of package ring. -/
namespace Go.Proofs.YtkpnffokjpgalaaGreat
set_option linter.unusedVariables false
set_option linter.unusedSimpArgs false
open Go.RowKit Go.Sort
attribute [local go_sem ↓] Go.wp_at_zero Go.wp_at_succ

set_option maxRecDepth 100000 in
set_option maxHeartbeats 16000000 in
theorem ringEdges_any (A : Option Addr) (c : Nat) (r : List (Int × Int)) (w : World) (h : IsVecs w A c r) (hlen : r.length ≤ 100000) :
    Calls Tryz.prog 34 #[.slice A r.length c] w fun e w' => ∃ A' c', e = .returned (.slice A' (edgesV r).length c') ∧ OwnSegs w.heap.size w' A' c' (edgesV r) ∧ SinceOf w w' := by
  have NX := fun (j : Nat) (hj : j < r.length) W (hW : SinceOf w W) => ringNext_any A c r j W (h.of hW) (by omega) (by omega) (by omega)
  have H := Lib.hid (And.intro h NX)
  clear h NX
  by_cases h2 : r.length < 2
  · have hz : edgesV r = [] := by unfold edgesV; rw [if_pos h2]
    have g1 : decide ((r.length : Int) < 2) = true := decide_eq_true (by omega)
    rw [hz]
    clear hz
    go_enter Tryz.func34, Tryz.ntmps34
    go_wp2_with fail
    go_returns
    exact ⟨none, 0, rfl, Owns.nil _ _ _ _ _, by (repeat (first | (with_reducible exact SinceOf.refl _) | (with_reducible assumption) | (with_reducible refine SinceOf.alloc ?_ _) | (with_reducible refine SinceOf.drew ?_) | (with_reducible refine SinceOf.drewN ?_ _) | (with_reducible refine SinceOf.later ?_ _) | (with_reducible refine SinceOf.further ?_ _) | (with_reducible refine SinceOf.setCell ?_ (by first | exact Nat.le_refl _ | (simp; done) | omega | (simp; omega)) _)))⟩
  have g1 : decide ((r.length : Int) < 2) = false := decide_eq_false (by omega)
  have hl := edgesV_len h2
  have hat := fun i (hi : i < r.length) => edgesV_at h2 hi
  obtain ⟨E, hE⟩ : ∃ E, E = edgesV r := ⟨_, rfl⟩
  rw [← hE] at hl ⊢
  have hnx : ∀ i (hi : i < r.length), E.take (i + 1) = E.take i ++ [(at0 r i, rv r (i + 1))] := fun i hi => by
    rw [List.take_succ_eq_append_getElem (by omega)]
    congr 2
    subst hE
    exact hat i hi
  obtain ⟨i0, hi, hz0, hz1, hz2⟩ := info_parts infoSeg
  have HI := Lib.hid (And.intro hi (And.intro hz0 (And.intro hz1 hz2)))
  have HE := Lib.hid (And.intro hl hnx)
  rw [hl]
  clear hi hz0 hz1 hz2 hl hnx hat hE
  go_enter Tryz.func34, Tryz.ntmps34
  go_wp2_with fail
  go_loopg [3, 11] r.length (fun gas s3 s11 wr => ∃ (i : Nat) (A2 : Option Addr) (c2 : Nat), i ≤ r.length ∧ r.length - i ≤ gas ∧ s3 = .slice A2 i c2 ∧ s11 = .int .i64 i ∧ OwnSegs w.heap.size wr A2 c2 (E.take i) ∧ SinceOf w wr)
  case atStart => exact ⟨0, none, 0, by omega, by omega, rfl, rfl, Owns.nil _ _ _ _ _, by (repeat (first | (with_reducible exact SinceOf.refl _) | (with_reducible assumption) | (with_reducible refine SinceOf.alloc ?_ _) | (with_reducible refine SinceOf.drew ?_) | (with_reducible refine SinceOf.drewN ?_ _) | (with_reducible refine SinceOf.later ?_ _) | (with_reducible refine SinceOf.further ?_ _) | (with_reducible refine SinceOf.setCell ?_ (by first | exact Nat.le_refl _ | (simp; done) | omega | (simp; omega)) _)))⟩
  case round =>
    obtain ⟨i, A2, c2, hi, hgas, rfl, rfl, ho, ⟨z, rfl⟩⟩ := hrel
    have hzs := z.size
    by_cases hlt : i < r.length
    · have hr0 := H.out.1.of (w' := z.wd) (by (repeat (first | (with_reducible exact SinceOf.refl _) | (with_reducible assumption) | (with_reducible refine SinceOf.alloc ?_ _) | (with_reducible refine SinceOf.drew ?_) | (with_reducible refine SinceOf.drewN ?_ _) | (with_reducible refine SinceOf.later ?_ _) | (with_reducible refine SinceOf.further ?_ _) | (with_reducible refine SinceOf.setCell ?_ (by first | exact Nat.le_refl _ | (simp; done) | omega | (simp; omega)) _))))
      obtain ⟨g, off, rfl, hr⟩ := hr0.at_ (by omega)
      have hO := hr.there
      have a0 := hr.v0 i hlt
      have a1 := hr.v1 i hlt
      have N1 := fun W (hW : SinceOf z.wd W) => H.out.2 i hlt W (SinceOf.trans ⟨z, rfl⟩ hW)
      have ea : at0 r i = r[i] := at0_eq hlt
      have hn2 := HE.out.2 i hlt
      rw [ea] at hn2
      have hl0 : (E.take i).length = i := by rw [List.length_take, HE.out.1]; omega
      obtain ⟨L, hL⟩ : ∃ L, L = E.take i := ⟨_, rfl⟩
      rw [← hL] at ho hn2 hl0
      have hn3 : E.take (i + 1) = L ++ [((r[i].1, r[i].2), ((rv r (i + 1)).1, (rv r (i + 1)).2))] := hn2
      have HP := Lib.hid (And.intro ho (And.intro hn3 hl0))
      clear ho hn2 hn3 hl0 hL hr hr0 ea
      generalize (rv r (i + 1)).1 = xb at *
      generalize (rv r (i + 1)).2 = yb at *
      generalize r[i].1 = xa at *
      generalize r[i].2 = ya at *
      have hrn : ¬ r = [] := fun e => by (rw [e] at hlt; simp at hlt)
      go_wp2_with fail
      go_region_law
        (first
          | (go_simp; go_at_call 78; refine (N1 _ (by (repeat (first | (with_reducible exact SinceOf.refl _) | (with_reducible assumption) | (with_reducible refine SinceOf.alloc ?_ _) | (with_reducible refine SinceOf.drew ?_) | (with_reducible refine SinceOf.drewN ?_ _) | (with_reducible refine SinceOf.later ?_ _) | (with_reducible refine SinceOf.further ?_ _) | (with_reducible refine SinceOf.setCell ?_ (by first | exact Nat.le_refl _ | (simp; done) | omega | (simp; omega)) _))))).calls.mono ?_; rintro e _ ⟨rfl, z1, rfl⟩; (try dsimp only))
          | (refine step_append_row (by rfl) (.tmp 16) (.tmp 22) 30 (by rfl) encE_len (by omega) encE_one i0 _ 32 Tryz.underlying30 HI.out.1 HI.out.2.1 HI.out.2.2.1 HI.out.2.2.2 rfl (l := L) (A := A2) (c := c2) (base := w.heap.size) (by rw [HP.out.2.2]; rfl) (HP.out.1.of (by (repeat (first | (with_reducible exact SinceOf.refl _) | (with_reducible assumption) | (with_reducible refine SinceOf.alloc ?_ _) | (with_reducible refine SinceOf.drew ?_) | (with_reducible refine SinceOf.drewN ?_ _) | (with_reducible refine SinceOf.later ?_ _) | (with_reducible refine SinceOf.further ?_ _) | (with_reducible refine SinceOf.setCell ?_ (by first | exact Nat.le_refl _ | (simp; done) | omega | (simp; omega)) _))))) (m := [((xa, ya), (xb, yb))]) (by rfl) (isRow_atE _ _ _ _ _ _ (by first | rfl | simp)) (by rw [HP.out.2.2]; unfold maxLen; simp; omega) (by rw [HP.out.2.2]; simp; omega) (by have := z1.size; simp at *; omega) ?_; intro A4 c4 w4 ho4 hgr4 hb4))
      all_goals
        go_wp2_with fail
        go_roundg (r.length - (i + 1))
        case measure => omega
        case rel => exact ⟨i + 1, A4, c4, hlt, Nat.le_refl _, (by have q := HP.out.2.2; first | rfl | simp [q]), by go_num, by rw [HP.out.2.1]; exact ho4, SinceOf.grown (by (repeat (first | (with_reducible exact SinceOf.refl _) | (with_reducible assumption) | (with_reducible refine SinceOf.alloc ?_ _) | (with_reducible refine SinceOf.drew ?_) | (with_reducible refine SinceOf.drewN ?_ _) | (with_reducible refine SinceOf.later ?_ _) | (with_reducible refine SinceOf.further ?_ _) | (with_reducible refine SinceOf.setCell ?_ (by first | exact Nat.le_refl _ | (simp; done) | omega | (simp; omega)) _)))) hgr4 (fun q hq => (HP.out.1.below q hq).1)⟩
    · obtain rfl : i = r.length := by omega
      rw [List.take_of_length_le (by rw [HE.out.1]; exact Nat.le_refl _)] at ho
      have HP := Lib.hid ho
      clear ho
      go_wp2_with fail
      go_returns
      exact ⟨A2, c2, rfl, HP.out, by (repeat (first | (with_reducible exact SinceOf.refl _) | (with_reducible assumption) | (with_reducible refine SinceOf.alloc ?_ _) | (with_reducible refine SinceOf.drew ?_) | (with_reducible refine SinceOf.drewN ?_ _) | (with_reducible refine SinceOf.later ?_ _) | (with_reducible refine SinceOf.further ?_ _) | (with_reducible refine SinceOf.setCell ?_ (by first | exact Nat.le_refl _ | (simp; done) | omega | (simp; omega)) _)))⟩
end Go.Proofs.YtkpnffokjpgalaaGreat
