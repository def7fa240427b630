/- sort.Search as a contract of this seat: the least place; and the calendar's Next, Finish, Latest. -/
import Derived.Test.YtdcncalcncomoaaCalLay
import Derived.Test.YtdcncalcncomoaaCal5
namespace Go.Proofs.Ytdcncalcncomoaa
open Go.RowKit Go.Sort
set_option linter.unusedVariables false

theorem grow_of_later {w : World} (x : Later w) : ∃ q os', x.wd = grow (w.drewN q) os' := by
  refine ⟨x.wd.drawn - w.drawn, x.wd.heap.extract w.heap.size x.wd.heap.size, ?_⟩
  obtain ⟨wd, hb, hd⟩ := x
  have hh : wd.heap = w.heap ++ wd.heap.extract w.heap.size wd.heap.size := by
    apply Array.ext_getElem?
    intro i
    by_cases hi : i < w.heap.size
    · rw [Array.getElem?_append_left hi]; exact hb.block i hi
    · rw [Array.getElem?_append_right (by omega)]
      have := hb.size
      simp only [Array.getElem?_extract]
      by_cases hi2 : i < wd.heap.size
      · simp; rw [show w.heap.size + (i - w.heap.size) = i from by omega, if_pos (by omega)]
      · simp [Array.getElem?_eq_none (Nat.le_of_not_lt hi2)]; omega
  show wd = grow (w.drewN (wd.drawn - w.drawn)) (wd.heap.extract w.heap.size wd.heap.size)
  have h1 := hb.os
  have h2 := hb.tape
  have h3 := hb.output
  have h4 : wd.drawn = w.drawn + (wd.drawn - w.drawn) := by have : w.drawn ≤ wd.drawn := hd; omega
  obtain ⟨heap, tape, drawn, os, output⟩ := wd
  simp only [grow, World.drewN] at *
  subst h1 h2 h3
  rw [← hh, ← h4]

theorem later_of_grow (w : World) (q : Nat) (os : Array Obj) : LaterOf w (grow (w.drewN q) os) := by
  refine ⟨⟨grow (w.drewN q) os, ⟨rfl, rfl, rfl, by simp [grow, World.drewN], fun i hi => by simp [grow, World.drewN, Array.getElem?_append_left hi]⟩, by simp [grow, World.drewN]⟩, rfl⟩
theorem search_any (g : Nat) (cb : Array Value) (n : Nat) (p : Nat → Bool) (w : World) (eg : ∀ args w, (callFunc g args).run Try.prog w = .ok (.enter g args) w) (hsz : n < 4611686018427387904)
    (hf : ∀ W, LaterOf w W → ∀ i : Nat, i < n → Gives Try.prog g (#[.int .i64 i] ++ cb) W (.bool (p i))) (hmono : ∀ a b, a ≤ b → b < n → p a = true → p b = true) :
    Gives Try.prog 92 #[.int .i64 n, .func (.func g) #[] cb] w (.int .i64 (least p n)) := by
  have h := Any.sort_Search (P := Try.prog) Try.search g cb n p w eg hsz (fun m os i hi => Calls.mono (hf _ (later_of_grow w m os) i hi) fun e w' ⟨he, x, hx⟩ => ⟨he, by rw [hx]; exact grow_of_later x⟩) hmono
  change Calls Try.prog 92 _ _ _ at h
  refine Calls.mono h fun e w' ⟨he, q, os, hw⟩ => ⟨by rw [he, least_count hmono], by rw [hw]; exact later_of_grow w q os⟩

section
variable {P : Int} {A B : Option Addr} {n c m d : Nat} {S D : List (Int × Int)} {w : World}
/-- The closure of Next. -/
theorem nextFn_any (t : Int) (i : Nat) (b1 b2 : Nat) (h : IsCal w P A n c B m d S D) (g : GoodCal P S D) (h0 : 0 ≤ t) (h1 : t + i ≤ 1000000)
    (k0 : w.cell? ⟨b1, 0, none⟩ = some (.int .i64 P)) (k1 : w.cell? ⟨b1, 1, none⟩ = some (.slice A n c)) (k2 : w.cell? ⟨b1, 2, none⟩ = some (.slice B m d)) (k3 : w.cell? ⟨b2, 0, none⟩ = some (.int .i64 t)) :
    Gives Try.prog 93 #[.int .i64 i, .pointer (some ⟨b1, 0, none⟩), .pointer (some ⟨b2, 0, none⟩)] w (.bool (decide (0 < cnt (openI P S D) t (i + 1)))) := by
  apply Gives.ret
  have W := h.work g w (SinceOf.refl w) t (t + i + 1) h0 (by omega) (by omega)
  rw [show (t + (i : Int) + 1 - t).toNat = i + 1 from by omega] at W
  generalize cnt (openI P S D) t (i + 1) = q at *
  clear h g
  go_enter Try.func93, Try.ntmps93
  go_wp2_with fail
  refine W.calls.mono ?_
  rintro e _ ⟨rfl, x1, rfl⟩
  go_wp2_with fail
  go_returns
  exact ⟨rfl, by (repeat (first | (with_reducible exact LaterOf.refl _) | (with_reducible refine LaterOf.alloc ?_ _) | (with_reducible refine LaterOf.drew ?_) | (with_reducible refine LaterOf.drewN ?_ _) | (with_reducible refine LaterOf.later ?_ _) | (with_reducible refine LaterOf.setCell ?_ (by first | exact Nat.le_refl _ | (simp; done) | omega | (simp; omega)) _)))⟩
theorem finishFn_any (t k : Int) (i : Nat) (b1 b2 b3 : Nat) (h : IsCal w P A n c B m d S D) (g : GoodCal P S D) (h0 : 0 ≤ t) (h1 : t + i ≤ 1000000)
    (k0 : w.cell? ⟨b1, 0, none⟩ = some (.int .i64 P)) (k1 : w.cell? ⟨b1, 1, none⟩ = some (.slice A n c)) (k2 : w.cell? ⟨b1, 2, none⟩ = some (.slice B m d)) (k3 : w.cell? ⟨b2, 0, none⟩ = some (.int .i64 t)) (k4 : w.cell? ⟨b3, 0, none⟩ = some (.int .i64 k))
    (o1 : Nonempty (Old w b1)) (o2 : Nonempty (Old w b2)) (o3 : Nonempty (Old w b3)) :
    Gives Try.prog 96 #[.int .i64 i, .pointer (some ⟨b1, 0, none⟩), .pointer (some ⟨b2, 0, none⟩), .pointer (some ⟨b3, 0, none⟩)] w (.bool (decide (k ≤ cnt (openI P S D) t i))) := by
  apply Gives.ret
  have W := fun W hW => h.work g W hW t (t + i) h0 (by omega) (by omega)
  rw [show (t + (i : Int) - t).toNat = i from by omega] at W
  generalize cnt (openI P S D) t i = q at *
  clear h g
  go_enter Try.func96, Try.ntmps96
  go_wp2_with fail
  refine region_later (by kernel_rfl) (by kernel_rfl) ?_
  repeat (go_big_quiet_step ((exact Gives.later (W _ (by (repeat (first | (with_reducible exact SinceOf.refl _) | (with_reducible assumption) | (with_reducible refine SinceOf.alloc ?_ _) | (with_reducible refine SinceOf.drew ?_) | (with_reducible refine SinceOf.drewN ?_ _) | (with_reducible refine SinceOf.later ?_ _) | (with_reducible refine SinceOf.further ?_ _) | (with_reducible refine SinceOf.setCell ?_ (by first | exact Nat.le_refl _ | (simp; done) | omega | (simp; omega)) _))))))))
  refine wpQuiet_nil ?_
  rintro _ ⟨x1, rfl⟩
  go_wp2_with fail
  go_returns
  exact ⟨rfl, by (repeat (first | (with_reducible exact LaterOf.refl _) | (with_reducible refine LaterOf.alloc ?_ _) | (with_reducible refine LaterOf.drew ?_) | (with_reducible refine LaterOf.drewN ?_ _) | (with_reducible refine LaterOf.later ?_ _) | (with_reducible refine LaterOf.setCell ?_ (by first | exact Nat.le_refl _ | (simp; done) | omega | (simp; omega)) _)))⟩
end
end Go.Proofs.Ytdcncalcncomoaa
/- The calendar's Next, Finish, Latest. -/
namespace Go.Proofs.Ytdcncalcncomoaa
open Go.RowKit Go.Sort
set_option linter.unusedVariables false

section
variable {P : Int} {A B : Option Addr} {n c m d : Nat} {S D : List (Int × Int)} {w : World}
set_option maxRecDepth 100000 in
set_option maxHeartbeats 1000000 in
theorem next_any (t : Int) (h : IsCal w P A n c B m d S D) : Gives Try.prog 76 #[CalV P A n c B m d, .int .i64 t] w (pairV (nextV P S D t)) := by
  apply Gives.ret
  unfold nextV
  cases hv : validB P S D
  · have V := h.valid hv
    clear h hv
    go_enter Try.func76, Try.ntmps76
    go_wp2_with fail
    refine (V _ (by (repeat (first | (with_reducible exact SinceOf.refl _) | (with_reducible assumption) | (with_reducible refine SinceOf.alloc ?_ _) | (with_reducible refine SinceOf.drew ?_) | (with_reducible refine SinceOf.drewN ?_ _) | (with_reducible refine SinceOf.later ?_ _) | (with_reducible refine SinceOf.further ?_ _) | (with_reducible refine SinceOf.setCell ?_ (by first | exact Nat.le_refl _ | (simp; done) | omega | (simp; omega)) _))))).calls.mono ?_
    rintro e _ ⟨rfl, x1, rfl⟩
    go_wp2_with fail
    go_returns
    exact ⟨rfl, by (repeat (first | (with_reducible exact LaterOf.refl _) | (with_reducible refine LaterOf.alloc ?_ _) | (with_reducible refine LaterOf.drew ?_) | (with_reducible refine LaterOf.drewN ?_ _) | (with_reducible refine LaterOf.later ?_ _) | (with_reducible refine LaterOf.setCell ?_ (by first | exact Nat.le_refl _ | (simp; done) | omega | (simp; omega)) _)))⟩
  · have V := h.valid hv
    have g := validB_iff.1 hv
    clear hv
    cases ht : timeB t
    · clear h
      go_enter Try.func76, Try.ntmps76
      go_wp2_with fail
      refine (V _ (by (repeat (first | (with_reducible exact SinceOf.refl _) | (with_reducible assumption) | (with_reducible refine SinceOf.alloc ?_ _) | (with_reducible refine SinceOf.drew ?_) | (with_reducible refine SinceOf.drewN ?_ _) | (with_reducible refine SinceOf.later ?_ _) | (with_reducible refine SinceOf.further ?_ _) | (with_reducible refine SinceOf.setCell ?_ (by first | exact Nat.le_refl _ | (simp; done) | omega | (simp; omega)) _))))).calls.mono ?_
      rintro e _ ⟨rfl, x1, rfl⟩
      go_wp2_with fail
      refine (time_any _ _).mono ?_
      rintro e _ ⟨rfl, rfl⟩
      go_wp2_with fail
      go_returns
      exact ⟨rfl, by (repeat (first | (with_reducible exact LaterOf.refl _) | (with_reducible refine LaterOf.alloc ?_ _) | (with_reducible refine LaterOf.drew ?_) | (with_reducible refine LaterOf.drewN ?_ _) | (with_reducible refine LaterOf.later ?_ _) | (with_reducible refine LaterOf.setCell ?_ (by first | exact Nat.le_refl _ | (simp; done) | omega | (simp; omega)) _)))⟩
    · rw [show (true && true) = true from rfl, if_pos rfl]
      obtain ⟨h0, h1⟩ := timeB_iff.1 ht
      have hsz : (1000001 - t).toNat < 4611686018427387904 := by omega
      have hsp := least_spec (fun i => openI P S D (t + i)) (1000001 - t).toNat
      have HS := Lib.hid (show foundV t (fun i => openI P S D (t + i)) (1000001 - t).toNat = if least (fun i => openI P S D (t + i)) (1000001 - t).toNat < (1000001 - t).toNat then (t + least (fun i => openI P S D (t + i)) (1000001 - t).toNat, 0) else (0, 8) from rfl)
      have hle := hsp.1
      clear hsp
      have hN : (1000000 - t + 1 : Int) = ((1000001 - t).toNat : Int) := by omega
      have HN := Lib.hid hN
      clear hN
      have eg : ∀ args w, (callFunc 93 args).run Try.prog w = .ok (.enter 93 args) w := enters_of Try.func93 (by kernel_rfl) rfl
      have SR : ∀ (W : World), (∀ W', LaterOf W W' → ∀ i : Nat, i < (1000001 - t).toNat → Gives Try.prog 93 (#[.int .i64 i] ++ #[.pointer (some ⟨w.heap.size, 0, none⟩), .pointer (some ⟨w.heap.size + 1, 0, none⟩)]) W' (.bool (decide (0 < cnt (openI P S D) t (i + 1))))) →
          Gives Try.prog 92 #[.int .i64 (1000001 - t).toNat, .func (.func 93) #[] #[.pointer (some ⟨w.heap.size, 0, none⟩), .pointer (some ⟨w.heap.size + 1, 0, none⟩)]] W (.int .i64 (least (fun i => decide (0 < cnt (openI P S D) t (i + 1))) (1000001 - t).toNat)) := by
        intro W hf
        generalize (1000001 - t).toNat = N at *
        refine search_any 93 #[.pointer (some ⟨w.heap.size, 0, none⟩), .pointer (some ⟨w.heap.size + 1, 0, none⟩)] N (fun i => decide (0 < cnt (openI P S D) t (i + 1))) W eg hsz hf ?_
        intro a b hab hb hp
        have := cnt_mono (openI P S D) t (a + 1) (b + 1) (by omega)
        simp only [decide_eq_true_eq] at hp ⊢; omega
      rw [least_open] at SR
      generalize hr : least (fun i => openI P S D (t + i)) (1000001 - t).toNat = r at *
      clear hr
      have H := Lib.hid (And.intro h g)
      have HSR := Lib.hid SR
      clear h g SR eg
      go_enter Try.func76, Try.ntmps76
      go_wp2_with fail
      refine (V _ (by (repeat (first | (with_reducible exact SinceOf.refl _) | (with_reducible assumption) | (with_reducible refine SinceOf.alloc ?_ _) | (with_reducible refine SinceOf.drew ?_) | (with_reducible refine SinceOf.drewN ?_ _) | (with_reducible refine SinceOf.later ?_ _) | (with_reducible refine SinceOf.further ?_ _) | (with_reducible refine SinceOf.setCell ?_ (by first | exact Nat.le_refl _ | (simp; done) | omega | (simp; omega)) _))))).calls.mono ?_
      rintro e _ ⟨rfl, x1, rfl⟩
      go_wp2_with fail
      refine (time_any _ _).mono ?_
      rintro e _ ⟨rfl, rfl⟩
      go_wp2_with fail
      rw [HN.out]
      refine (HSR.out _ ?_).calls.mono ?_
      · rintro _ ⟨z, rfl⟩ i hi
        exact nextFn_any t i _ _ (H.out.1.of (by (repeat (first | (with_reducible exact SinceOf.refl _) | (with_reducible assumption) | (with_reducible refine SinceOf.alloc ?_ _) | (with_reducible refine SinceOf.drew ?_) | (with_reducible refine SinceOf.drewN ?_ _) | (with_reducible refine SinceOf.later ?_ _) | (with_reducible refine SinceOf.further ?_ _) | (with_reducible refine SinceOf.setCell ?_ (by first | exact Nat.le_refl _ | (simp; done) | omega | (simp; omega)) _))))) H.out.2 h0 (by omega) (by simp [go_sem]) (by simp [go_sem]) (by simp [go_sem]) (by simp [go_sem])
      · rintro e _ ⟨rfl, x2, rfl⟩
        by_cases hfound : r < (1000001 - t).toNat
        · have hb : t + (r : Int) ≤ 1000000 := by omega
          have HF := Lib.hid hfound
          clear hfound
          go_wp2_with fail
          go_returns
          exact ⟨pair_eq (by rw [HS.out, if_pos HF.out]), by (repeat (first | (with_reducible exact LaterOf.refl _) | (with_reducible refine LaterOf.alloc ?_ _) | (with_reducible refine LaterOf.drew ?_) | (with_reducible refine LaterOf.drewN ?_ _) | (with_reducible refine LaterOf.later ?_ _) | (with_reducible refine LaterOf.setCell ?_ (by first | exact Nat.le_refl _ | (simp; done) | omega | (simp; omega)) _)))⟩
        · have hb : 1000000 < t + (r : Int) := by omega
          have HF := Lib.hid hfound
          clear hfound
          go_wp2_with fail
          go_returns
          exact ⟨pair_eq (by rw [HS.out, if_neg HF.out]), by (repeat (first | (with_reducible exact LaterOf.refl _) | (with_reducible refine LaterOf.alloc ?_ _) | (with_reducible refine LaterOf.drew ?_) | (with_reducible refine LaterOf.drewN ?_ _) | (with_reducible refine LaterOf.later ?_ _) | (with_reducible refine LaterOf.setCell ?_ (by first | exact Nat.le_refl _ | (simp; done) | omega | (simp; omega)) _)))⟩
set_option maxRecDepth 100000 in
set_option maxHeartbeats 1000000 in
theorem finish_any (t k : Int) (h : IsCal w P A n c B m d S D) : Gives Try.prog 77 #[CalV P A n c B m d, .int .i64 t, .int .i64 k] w (pairV (finishV P S D t k)) := by
  apply Gives.ret
  have K := fun W hW => checked_any (w := W) t t (h.of hW)
  rw [checkB_self] at K
  unfold finishV
  by_cases hg : (validB P S D && timeB t) = true
  · rw [Bool.and_eq_true] at hg
    obtain ⟨hv, ht⟩ := hg
    rw [hv, ht] at K
    have g := validB_iff.1 hv
    rw [hv, ht]
    clear hv
    cases hk : timeB k
    · clear h g ht
      rw [show (true && (true && false)) = false from rfl, if_neg (by decide)]
      go_enter Try.func77, Try.ntmps77
      go_wp2_with fail
      refine (K _ (by (repeat (first | (with_reducible exact SinceOf.refl _) | (with_reducible assumption) | (with_reducible refine SinceOf.alloc ?_ _) | (with_reducible refine SinceOf.drew ?_) | (with_reducible refine SinceOf.drewN ?_ _) | (with_reducible refine SinceOf.later ?_ _) | (with_reducible refine SinceOf.further ?_ _) | (with_reducible refine SinceOf.setCell ?_ (by first | exact Nat.le_refl _ | (simp; done) | omega | (simp; omega)) _))))).calls.mono ?_
      rintro e _ ⟨rfl, x1, rfl⟩
      simp only [errI, if_true]
      go_wp2_with fail
      refine (time_any _ _).mono ?_
      rintro e _ ⟨rfl, rfl⟩
      go_wp2_with fail
      go_returns
      exact ⟨rfl, by (repeat (first | (with_reducible exact LaterOf.refl _) | (with_reducible refine LaterOf.alloc ?_ _) | (with_reducible refine LaterOf.drew ?_) | (with_reducible refine LaterOf.drewN ?_ _) | (with_reducible refine LaterOf.later ?_ _) | (with_reducible refine LaterOf.setCell ?_ (by first | exact Nat.le_refl _ | (simp; done) | omega | (simp; omega)) _)))⟩
    · rw [show (true && (true && true)) = true from rfl, if_pos rfl]
      obtain ⟨h0, h1⟩ := timeB_iff.1 ht
      obtain ⟨k0, k1⟩ := timeB_iff.1 hk
      have hsz : (1000001 - t).toNat < 4611686018427387904 := by omega
      have hsp := least_spec (fun i => decide (k ≤ cnt (openI P S D) t i)) (1000001 - t).toNat
      have HS := Lib.hid (show foundV t (fun i => decide (k ≤ cnt (openI P S D) t i)) (1000001 - t).toNat = if least (fun i => decide (k ≤ cnt (openI P S D) t i)) (1000001 - t).toNat < (1000001 - t).toNat then (t + least (fun i => decide (k ≤ cnt (openI P S D) t i)) (1000001 - t).toNat, 0) else (0, 8) from rfl)
      have hle := hsp.1
      clear hsp
      have hN : (1000000 - t + 1 : Int) = ((1000001 - t).toNat : Int) := by omega
      have HN := Lib.hid hN
      clear hN
      have eg : ∀ args w, (callFunc 96 args).run Try.prog w = .ok (.enter 96 args) w := enters_of Try.func96 (by kernel_rfl) rfl
      have SR : ∀ (W : World), (∀ W', LaterOf W W' → ∀ i : Nat, i < (1000001 - t).toNat → Gives Try.prog 96 (#[.int .i64 i] ++ #[.pointer (some ⟨w.heap.size, 0, none⟩), .pointer (some ⟨w.heap.size + 1, 0, none⟩), .pointer (some ⟨w.heap.size + 1 + 1, 0, none⟩)]) W' (.bool (decide (k ≤ cnt (openI P S D) t i)))) →
          Gives Try.prog 92 #[.int .i64 (1000001 - t).toNat, .func (.func 96) #[] #[.pointer (some ⟨w.heap.size, 0, none⟩), .pointer (some ⟨w.heap.size + 1, 0, none⟩), .pointer (some ⟨w.heap.size + 1 + 1, 0, none⟩)]] W (.int .i64 (least (fun i => decide (k ≤ cnt (openI P S D) t i)) (1000001 - t).toNat)) := by
        intro W hf
        have hN2 : ((1000001 - t).toNat : Int) = (1000001 - t) := by omega
        generalize (1000001 - t).toNat = N at *
        refine search_any 96 #[.pointer (some ⟨w.heap.size, 0, none⟩), .pointer (some ⟨w.heap.size + 1, 0, none⟩), .pointer (some ⟨w.heap.size + 1 + 1, 0, none⟩)] N (fun i => decide (k ≤ cnt (openI P S D) t i)) W eg hsz hf ?_
        intro a b hab hb hp
        have := cnt_mono (openI P S D) t a b hab
        simp only [decide_eq_true_eq] at hp ⊢; omega
      generalize hr : least (fun i => decide (k ≤ cnt (openI P S D) t i)) (1000001 - t).toNat = r at *
      clear hr
      have H := Lib.hid (And.intro h g)
      have HSR := Lib.hid SR
      clear h g SR eg
      go_enter Try.func77, Try.ntmps77
      go_wp2_with fail
      refine (K _ (by (repeat (first | (with_reducible exact SinceOf.refl _) | (with_reducible assumption) | (with_reducible refine SinceOf.alloc ?_ _) | (with_reducible refine SinceOf.drew ?_) | (with_reducible refine SinceOf.drewN ?_ _) | (with_reducible refine SinceOf.later ?_ _) | (with_reducible refine SinceOf.further ?_ _) | (with_reducible refine SinceOf.setCell ?_ (by first | exact Nat.le_refl _ | (simp; done) | omega | (simp; omega)) _))))).calls.mono ?_
      rintro e _ ⟨rfl, x1, rfl⟩
      simp only [errI, if_true]
      go_wp2_with fail
      refine (time_any _ _).mono ?_
      rintro e _ ⟨rfl, rfl⟩
      go_wp2_with fail
      rw [HN.out]
      refine (HSR.out _ ?_).calls.mono ?_
      · rintro _ ⟨z, rfl⟩ i hi
        exact finishFn_any t k i _ _ _ (H.out.1.of (by (repeat (first | (with_reducible exact SinceOf.refl _) | (with_reducible assumption) | (with_reducible refine SinceOf.alloc ?_ _) | (with_reducible refine SinceOf.drew ?_) | (with_reducible refine SinceOf.drewN ?_ _) | (with_reducible refine SinceOf.later ?_ _) | (with_reducible refine SinceOf.further ?_ _) | (with_reducible refine SinceOf.setCell ?_ (by first | exact Nat.le_refl _ | (simp; done) | omega | (simp; omega)) _))))) H.out.2 h0 (by omega) (by simp [go_sem]) (by simp [go_sem]) (by simp [go_sem]) (by simp [go_sem]) (by simp [go_sem]) inferInstance inferInstance inferInstance
      · rintro e _ ⟨rfl, x2, rfl⟩
        by_cases hfound : r < (1000001 - t).toNat
        · have hb : t + (r : Int) ≤ 1000000 := by omega
          have HF := Lib.hid hfound
          clear hfound
          go_wp2_with fail
          go_returns
          exact ⟨pair_eq (by rw [HS.out, if_pos HF.out]), by (repeat (first | (with_reducible exact LaterOf.refl _) | (with_reducible refine LaterOf.alloc ?_ _) | (with_reducible refine LaterOf.drew ?_) | (with_reducible refine LaterOf.drewN ?_ _) | (with_reducible refine LaterOf.later ?_ _) | (with_reducible refine LaterOf.setCell ?_ (by first | exact Nat.le_refl _ | (simp; done) | omega | (simp; omega)) _)))⟩
        · have hb : 1000000 < t + (r : Int) := by omega
          have HF := Lib.hid hfound
          clear hfound
          go_wp2_with fail
          go_returns
          exact ⟨pair_eq (by rw [HS.out, if_neg HF.out]), by (repeat (first | (with_reducible exact LaterOf.refl _) | (with_reducible refine LaterOf.alloc ?_ _) | (with_reducible refine LaterOf.drew ?_) | (with_reducible refine LaterOf.drewN ?_ _) | (with_reducible refine LaterOf.later ?_ _) | (with_reducible refine LaterOf.setCell ?_ (by first | exact Nat.le_refl _ | (simp; done) | omega | (simp; omega)) _)))⟩
  · have e0 : (validB P S D && (timeB t && timeB k)) = false := by
      cases hv : validB P S D <;> cases hc : timeB t <;> simp [hv, hc] at hg ⊢
    have hd : errI (validB P S D) (timeB t && timeB k) = errI (validB P S D) (timeB t) ∧ (errI (validB P S D) (timeB t) = 1 ∨ errI (validB P S D) (timeB t) = 2) := by
      cases hv : validB P S D <;> cases hc : timeB t <;> simp [hv, hc, errI] at hg ⊢
    rw [e0, hd.1]
    have hd := hd.2
    clear h hg e0
    generalize errI (validB P S D) (timeB t) = q at *
    rw [if_neg (by decide)]
    rcases hd with rfl | rfl
    all_goals
      go_enter Try.func77, Try.ntmps77
      go_wp2_with fail
      refine (K _ (by (repeat (first | (with_reducible exact SinceOf.refl _) | (with_reducible assumption) | (with_reducible refine SinceOf.alloc ?_ _) | (with_reducible refine SinceOf.drew ?_) | (with_reducible refine SinceOf.drewN ?_ _) | (with_reducible refine SinceOf.later ?_ _) | (with_reducible refine SinceOf.further ?_ _) | (with_reducible refine SinceOf.setCell ?_ (by first | exact Nat.le_refl _ | (simp; done) | omega | (simp; omega)) _))))).calls.mono ?_
      rintro e _ ⟨rfl, x1, rfl⟩
      go_wp2_with fail
      go_returns
      exact ⟨rfl, by (repeat (first | (with_reducible exact LaterOf.refl _) | (with_reducible refine LaterOf.alloc ?_ _) | (with_reducible refine LaterOf.drew ?_) | (with_reducible refine LaterOf.drewN ?_ _) | (with_reducible refine LaterOf.later ?_ _) | (with_reducible refine LaterOf.setCell ?_ (by first | exact Nat.le_refl _ | (simp; done) | omega | (simp; omega)) _)))⟩
theorem cnt_slide (f : Int → Bool) (t : Int) (a b : Nat) (h : a ≤ b) : cnt f (t - a) a ≤ cnt f (t - b) b := by
  obtain ⟨k, rfl⟩ := Nat.exists_eq_add_of_le h
  have e := cnt_add f (t - ((a + k : Nat) : Int)) k a
  rw [show k + a = a + k from by omega, show t - ((a + k : Nat) : Int) + k = t - a from by omega] at e
  have := cnt_bounds f (t - ((a + k : Nat) : Int)) k
  omega
end
end Go.Proofs.Ytdcncalcncomoaa
