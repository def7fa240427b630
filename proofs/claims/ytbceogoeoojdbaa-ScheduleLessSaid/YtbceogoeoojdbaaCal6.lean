/- sort.Search as a contract of this seat: the least place; and the calendar's Next, Finish, Latest. -/
import Derived.Test.YtbceogoeoojdbaaCalLay
import Derived.Test.YtbceogoeoojdbaaCal5
namespace Go.Proofs.Ytbceogoeoojdbaa
open Go.RowKit Go.Sort
set_option linter.unusedVariables false

theorem grow_of_later {w : World} (x : Later w) : ∃ q os', x.wd = grow (w.drewN q) os' := by
  refine ⟨x.wd.drawn - w.drawn, x.wd.heap.extract w.heap.size x.wd.heap.size, ?_⟩
  obtain ⟨wd, hb, hd⟩ := x
  have hh : wd.heap = w.heap ++ wd.heap.extract w.heap.size wd.heap.size := by
    apply Array.ext_getElem?
    intro i
    by_cases hi : i < w.heap.size
    · rw [Array.getElem?_append_left hi]; exact hb.block i hi
    · rw [Array.getElem?_append_right (by omega)]
      have := hb.size
      simp only [Array.getElem?_extract]
      by_cases hi2 : i < wd.heap.size
      · simp; rw [show w.heap.size + (i - w.heap.size) = i from by omega, if_pos (by omega)]
      · simp [Array.getElem?_eq_none (Nat.le_of_not_lt hi2)]; omega
  show wd = grow (w.drewN (wd.drawn - w.drawn)) (wd.heap.extract w.heap.size wd.heap.size)
  have h1 := hb.os
  have h2 := hb.tape
  have h3 := hb.output
  have h4 : wd.drawn = w.drawn + (wd.drawn - w.drawn) := by have : w.drawn ≤ wd.drawn := hd; omega
  obtain ⟨heap, tape, drawn, os, output⟩ := wd
  simp only [grow, World.drewN] at *
  subst h1 h2 h3
  rw [← hh, ← h4]

theorem later_of_grow (w : World) (q : Nat) (os : Array Obj) : LaterOf w (grow (w.drewN q) os) := by
  refine ⟨⟨grow (w.drewN q) os, ⟨rfl, rfl, rfl, by simp [grow, World.drewN], fun i hi => by simp [grow, World.drewN, Array.getElem?_append_left hi]⟩, by simp [grow, World.drewN]⟩, rfl⟩
theorem search_any (g : Nat) (cb : Array Value) (n : Nat) (p : Nat → Bool) (w : World) (eg : ∀ args w, (callFunc g args).run Try.prog w = .ok (.enter g args) w) (hsz : n < 4611686018427387904)
    (hf : ∀ W, LaterOf w W → ∀ i : Nat, i < n → Gives Try.prog g (#[.int .i64 i] ++ cb) W (.bool (p i))) (hmono : ∀ a b, a ≤ b → b < n → p a = true → p b = true) :
    Gives Try.prog 81 #[.int .i64 n, .func (.func g) #[] cb] w (.int .i64 (least p n)) := by
  have h := Any.sort_Search (P := Try.prog) Try.search g cb n p w eg hsz (fun m os i hi => Calls.mono (hf _ (later_of_grow w m os) i hi) fun e w' ⟨he, x, hx⟩ => ⟨he, by rw [hx]; exact grow_of_later x⟩) hmono
  change Calls Try.prog 81 _ _ _ at h
  refine Calls.mono h fun e w' ⟨he, q, os, hw⟩ => ⟨by rw [he, least_count hmono], by rw [hw]; exact later_of_grow w q os⟩

section
variable {P : Int} {A B : Option Addr} {n c m d : Nat} {S D : List (Int × Int)} {w : World}
/-- The closure of Next. -/
theorem nextFn_any (t : Int) (i : Nat) (b1 b2 : Nat) (h : IsCal w P A n c B m d S D) (g : GoodCal P S D) (h0 : 0 ≤ t) (h1 : t + i ≤ 1000000)
    (k0 : w.cell? ⟨b1, 0, none⟩ = some (.int .i64 P)) (k1 : w.cell? ⟨b1, 1, none⟩ = some (.slice A n c)) (k2 : w.cell? ⟨b1, 2, none⟩ = some (.slice B m d)) (k3 : w.cell? ⟨b2, 0, none⟩ = some (.int .i64 t)) :
    Gives Try.prog 89 #[.int .i64 i, .pointer (some ⟨b1, 0, none⟩), .pointer (some ⟨b2, 0, none⟩)] w (.bool (decide (0 < cnt (openI P S D) t (i + 1)))) := by
  apply Gives.ret
  have W := h.work g w (SinceOf.refl w) t (t + i + 1) h0 (by omega) (by omega)
  rw [show (t + (i : Int) + 1 - t).toNat = i + 1 from by omega] at W
  generalize cnt (openI P S D) t (i + 1) = q at *
  clear h g
  go_enter Try.func89, Try.ntmps89
  go_wp2_with fail
  refine W.calls.mono ?_
  rintro e _ ⟨rfl, x1, rfl⟩
  go_wp2_with fail
  go_returns
  exact ⟨rfl, by (repeat (first | (with_reducible exact LaterOf.refl _) | (with_reducible refine LaterOf.alloc ?_ _) | (with_reducible refine LaterOf.drew ?_) | (with_reducible refine LaterOf.drewN ?_ _) | (with_reducible refine LaterOf.later ?_ _) | (with_reducible refine LaterOf.setCell ?_ (by first | exact Nat.le_refl _ | (simp; done) | omega | (simp; omega)) _)))⟩
theorem finishFn_any (t k : Int) (i : Nat) (b1 b2 b3 : Nat) (h : IsCal w P A n c B m d S D) (g : GoodCal P S D) (h0 : 0 ≤ t) (h1 : t + i ≤ 1000000)
    (k0 : w.cell? ⟨b1, 0, none⟩ = some (.int .i64 P)) (k1 : w.cell? ⟨b1, 1, none⟩ = some (.slice A n c)) (k2 : w.cell? ⟨b1, 2, none⟩ = some (.slice B m d)) (k3 : w.cell? ⟨b2, 0, none⟩ = some (.int .i64 t)) (k4 : w.cell? ⟨b3, 0, none⟩ = some (.int .i64 k))
    (o1 : Nonempty (Old w b1)) (o2 : Nonempty (Old w b2)) (o3 : Nonempty (Old w b3)) :
    Gives Try.prog 82 #[.int .i64 i, .pointer (some ⟨b1, 0, none⟩), .pointer (some ⟨b2, 0, none⟩), .pointer (some ⟨b3, 0, none⟩)] w (.bool (decide (k ≤ cnt (openI P S D) t i))) := by
  apply Gives.ret
  have W := fun W hW => h.work g W hW t (t + i) h0 (by omega) (by omega)
  rw [show (t + (i : Int) - t).toNat = i from by omega] at W
  generalize cnt (openI P S D) t i = q at *
  clear h g
  go_enter Try.func82, Try.ntmps82
  go_wp2_with fail
  refine region_later (by kernel_rfl) (by kernel_rfl) ?_
  repeat (go_big_quiet_step ((exact Gives.later (W _ (by (repeat (first | (with_reducible exact SinceOf.refl _) | (with_reducible assumption) | (with_reducible refine SinceOf.alloc ?_ _) | (with_reducible refine SinceOf.drew ?_) | (with_reducible refine SinceOf.drewN ?_ _) | (with_reducible refine SinceOf.later ?_ _) | (with_reducible refine SinceOf.further ?_ _) | (with_reducible refine SinceOf.setCell ?_ (by first | exact Nat.le_refl _ | (simp; done) | omega | (simp; omega)) _))))))))
  refine wpQuiet_nil ?_
  rintro _ ⟨x1, rfl⟩
  go_wp2_with fail
  go_returns
  exact ⟨rfl, by (repeat (first | (with_reducible exact LaterOf.refl _) | (with_reducible refine LaterOf.alloc ?_ _) | (with_reducible refine LaterOf.drew ?_) | (with_reducible refine LaterOf.drewN ?_ _) | (with_reducible refine LaterOf.later ?_ _) | (with_reducible refine LaterOf.setCell ?_ (by first | exact Nat.le_refl _ | (simp; done) | omega | (simp; omega)) _)))⟩
theorem latestFn_any (t k : Int) (i : Nat) (b1 b2 b3 : Nat) (h : IsCal w P A n c B m d S D) (g : GoodCal P S D) (h0 : t ≤ 1000000) (h1 : (i : Int) ≤ t)
    (k0 : w.cell? ⟨b1, 0, none⟩ = some (.int .i64 P)) (k1 : w.cell? ⟨b1, 1, none⟩ = some (.slice A n c)) (k2 : w.cell? ⟨b1, 2, none⟩ = some (.slice B m d)) (k3 : w.cell? ⟨b2, 0, none⟩ = some (.int .i64 t)) (k4 : w.cell? ⟨b3, 0, none⟩ = some (.int .i64 k))
    (o1 : Nonempty (Old w b1)) (o2 : Nonempty (Old w b2)) (o3 : Nonempty (Old w b3)) :
    Gives Try.prog 83 #[.int .i64 i, .pointer (some ⟨b1, 0, none⟩), .pointer (some ⟨b2, 0, none⟩), .pointer (some ⟨b3, 0, none⟩)] w (.bool (decide (k ≤ cnt (openI P S D) (t - i) i))) := by
  apply Gives.ret
  have W := fun W hW => h.work g W hW (t - i) t (by omega) (by omega) (by omega)
  rw [show (t - (t - (i : Int))).toNat = i from by omega] at W
  generalize cnt (openI P S D) (t - i) i = q at *
  clear h g
  go_enter Try.func83, Try.ntmps83
  go_wp2_with fail
  refine region_later (by kernel_rfl) (by kernel_rfl) ?_
  repeat (go_big_quiet_step ((exact Gives.later (W _ (by (repeat (first | (with_reducible exact SinceOf.refl _) | (with_reducible assumption) | (with_reducible refine SinceOf.alloc ?_ _) | (with_reducible refine SinceOf.drew ?_) | (with_reducible refine SinceOf.drewN ?_ _) | (with_reducible refine SinceOf.later ?_ _) | (with_reducible refine SinceOf.further ?_ _) | (with_reducible refine SinceOf.setCell ?_ (by first | exact Nat.le_refl _ | (simp; done) | omega | (simp; omega)) _))))))))
  refine wpQuiet_nil ?_
  rintro _ ⟨x1, rfl⟩
  go_wp2_with fail
  go_returns
  exact ⟨rfl, by (repeat (first | (with_reducible exact LaterOf.refl _) | (with_reducible refine LaterOf.alloc ?_ _) | (with_reducible refine LaterOf.drew ?_) | (with_reducible refine LaterOf.drewN ?_ _) | (with_reducible refine LaterOf.later ?_ _) | (with_reducible refine LaterOf.setCell ?_ (by first | exact Nat.le_refl _ | (simp; done) | omega | (simp; omega)) _)))⟩
end
end Go.Proofs.Ytbceogoeoojdbaa
