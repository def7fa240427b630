/- Layer 15: the comparison of Sum, slices.SortStableFunc on few elements. -/
import Derived.Test.YtpbgimdbhgahkaaGreatMink8
import Derived.Test.YtpbgimdbhgahkaaGreatRefSorted
import Derived.Shelf.SlSortCmp.InsertionK
namespace Go.Proofs.YtpbgimdbhgahkaaGreat
open Go.RowKit Go.Sort
set_option linter.unusedVariables false
set_option linter.unusedSimpArgs false
attribute [local go_sem ↓] Go.wp_at_zero Go.wp_at_succ

def halfI (p : Pt) : Int := if upB p then 0 else 1
def ecmp (p q : Pt) : Int := or2 (cmpi (halfI p) (halfI q)) (cmpi 0 (crossI p.1 p.2 q.1 q.2))
set_option maxRecDepth 100000 in
theorem half_any (x y : Int) (w : World) : Gives Tryz.prog 61 #[vv x y] w (.int .i64 (halfI (x, y))) := by
  apply Gives.ret
  unfold halfI
  have U := upper_any x y
  cases hu : upB (x, y)
  · rw [hu] at U
    go_enter Tryz.func61, Tryz.ntmps61
    go_wp2_with fail
    refine (U _).calls.mono ?_
    rintro e _ ⟨rfl, x1, rfl⟩
    go_wp2_with fail
    go_returns
    exact ⟨rfl, by (repeat (first | (with_reducible exact LaterOf.refl _) | (with_reducible refine LaterOf.alloc ?_ _) | (with_reducible refine LaterOf.drew ?_) | (with_reducible refine LaterOf.drewN ?_ _) | (with_reducible refine LaterOf.later ?_ _) | (with_reducible refine LaterOf.setCell ?_ (by first | exact Nat.le_refl _ | (simp; done) | omega | (simp; omega)) _)))⟩
  · rw [hu] at U
    go_enter Tryz.func61, Tryz.ntmps61
    go_wp2_with fail
    refine (U _).calls.mono ?_
    rintro e _ ⟨rfl, x1, rfl⟩
    go_wp2_with fail
    go_returns
    exact ⟨rfl, by (repeat (first | (with_reducible exact LaterOf.refl _) | (with_reducible refine LaterOf.alloc ?_ _) | (with_reducible refine LaterOf.drew ?_) | (with_reducible refine LaterOf.drewN ?_ _) | (with_reducible refine LaterOf.later ?_ _) | (with_reducible refine LaterOf.setCell ?_ (by first | exact Nat.le_refl _ | (simp; done) | omega | (simp; omega)) _)))⟩
set_option maxRecDepth 100000 in
set_option maxHeartbeats 8000000 in
theorem ecmp_any (b7 : Nat) (a b c d : Int) (w : World) (h : w.cell? ⟨b7, 0, none⟩ = some (.func (.func 61) #[] #[])) (hO : Nonempty (Old w b7)) :
    Gives Tryz.prog 63 #[vv a b, vv c d, .pointer (some ⟨b7, 0, none⟩)] w (.int .i64 (ecmp (a, b) (c, d))) := by
  apply Gives.ret
  have H1 := half_any a b
  have H2 := half_any c d
  have C := cross_any a b c d
  unfold ecmp
  generalize halfI (a, b) = s at *
  generalize halfI (c, d) = t at *
  simp only
  generalize crossI a b c d = k at *
  have hlt := hO.elim fun q => q.lt
  go_enter Tryz.func63, Tryz.ntmps63
  go_wp2_with fail
  go_region_held3 (fun w' => w'.cell? ⟨b7, 0, none⟩ = some (.func (.func 61) #[] #[]) ∧ w'.cell? ⟨w.heap.size, 0, none⟩ = some (.int .i64 a) ∧ w'.cell? ⟨w.heap.size, 1, none⟩ = some (.int .i64 b) ∧ w'.cell? ⟨w.heap.size + 1, 0, none⟩ = some (.int .i64 c) ∧ w'.cell? ⟨w.heap.size + 1, 1, none⟩ = some (.int .i64 d)) ((simp [go_sem, *]))
    (first
      | (go_at_call 61; (with_reducible refine (H1 _).calls.mono ?_); rintro e _ ⟨rfl, y1, rfl⟩)
      | (go_at_call 61; (with_reducible refine (H2 _).calls.mono ?_); rintro e _ ⟨rfl, y2, rfl⟩)
      | (go_at_call 54; (with_reducible refine (C _).calls.mono ?_); rintro e _ ⟨rfl, y3, rfl⟩)
      | (go_at_call 65; refine (cmpCompare_any _ _ _).mono ?_; rintro e w' ⟨rfl, rfl⟩)
      | (go_at_call 64; refine (cmpOr_any (cmpi s t) (cmpi 0 k) _ _ _ (by simp [go_sem]) (by simp [go_sem])).mono ?_; rintro e w' ⟨rfl, rfl⟩))
  all_goals
    go_wp2_with fail
    go_returns
    exact ⟨rfl, by (repeat (first | (with_reducible exact LaterOf.refl _) | (with_reducible refine LaterOf.alloc ?_ _) | (with_reducible refine LaterOf.drew ?_) | (with_reducible refine LaterOf.drewN ?_ _) | (with_reducible refine LaterOf.later ?_ _) | (with_reducible refine LaterOf.setCell ?_ (by first | exact Nat.le_refl _ | (simp; done) | omega | (simp; omega)) _)))⟩
end Go.Proofs.YtpbgimdbhgahkaaGreat
/- Layer 15: slices.SortStableFunc on few elements. -/
namespace Go.Proofs.YtpbgimdbhgahkaaGreat
open Go.RowKit Go.Sort
set_option linter.unusedVariables false
set_option linter.unusedSimpArgs false
attribute [local go_sem ↓] Go.wp_at_zero Go.wp_at_succ

theorem insInner_size {α : Type} [Inhabited α] (lt : α → α → Bool) (a : Nat) : ∀ (j : Nat) (d : Array α), (insInner lt a j d).size = d.size := by
  intro j
  induction j with
  | zero => intro d; unfold insInner; simp
  | succ j ih => intro d; unfold insInner; split <;> simp [ih, swp]
theorem insOuter_size {α : Type} [Inhabited α] (lt : α → α → Bool) (a b : Nat) : ∀ (k i : Nat) (d : Array α), b - i ≤ k → (insOuter lt a b i d).size = d.size := by
  intro k
  induction k with
  | zero => intro i d h; rw [insOuter, if_neg (by omega)]
  | succ k ih =>
    intro i d h
    by_cases hi : i < b
    · rw [insOuter, if_pos hi, ih _ _ (by omega), insInner_size]
    · rw [insOuter, if_neg hi]
theorem insertionSort_size {α : Type} [Inhabited α] (lt : α → α → Bool) (a b : Nat) (d : Array α) : (insertionSort lt d a b).size = d.size := insOuter_size lt a b _ _ d (Nat.le_refl _)
theorem ecmpLays (b7 blk off size : Nat) (w : World) (h : w.cell? ⟨b7, 0, none⟩ = some (.func (.func 61) #[] #[])) (hO : Nonempty (Old w b7)) (hne : b7 ≠ blk) :
    CmpLays Tryz.prog 63 #[.pointer (some ⟨b7, 0, none⟩)] encV 2 ecmp blk off size w := by
  intro m os dk _ x y
  have hlt := hO.elim fun q => q.lt
  have hg := sortWorld_grown encV 2 w blk off m dk os
  have h' : (sortWorldK encV 2 w blk off m dk os).cell? ⟨b7, 0, none⟩ = some (.func (.func 61) #[] #[]) := by
    rw [World.grownBy.cell_far hg _ hlt (by simpa using hne)]; exact h
  refine (ecmp_any b7 x.1 x.2 y.1 y.2 _ h' ⟨⟨Nat.lt_of_lt_of_le hlt hg.size⟩⟩).calls.mono ?_
  rintro e _ ⟨rfl, z, rfl⟩
  exact ⟨rfl, grow_of_later z⟩

set_option maxRecDepth 100000 in
set_option maxHeartbeats 4000000 in
theorem insert_any (g off c b7 a b : Nat) (l : List (Int × Int)) (w : World) (hL : Live encV 2 w g off l) (hn : l.length < 4611686018427387904) (hab : a ≤ b) (hb : b ≤ l.length)
    (h : w.cell? ⟨b7, 0, none⟩ = some (.func (.func 61) #[] #[])) (hO : Nonempty (Old w b7)) (hne : b7 ≠ g) :
    Calls Tryz.prog 86 #[.slice (some ⟨g, off, none⟩) l.length c, .int .i64 a, .int .i64 b, .func (.func 63) #[] #[.pointer (some ⟨b7, 0, none⟩)]] w fun e w' => e = .returned (.tuple #[]) ∧ Live encV 2 w' g off (insertionSort (ltOf ecmp) l.toArray a b).toList ∧ w.grownBy w' (some g) := by
  have eg : ∀ args w, (callFunc 63 args).run Tryz.prog w = .ok (.enter 63 args) w := Go.Proofs.enters_of Tryz.func63 (by kernel_rfl) rfl
  have hg : g < w.heap.size := hL.row.there.elim fun h => h.lt
  have hcon := AnyQ.insertionSortCmpFunc Tryz.insVec 2 Tryz.isAgg24 Tryz.sizeOf24 encV encV_len encV_one ecmp 63 #[.pointer (some ⟨b7, 0, none⟩)] g off c a b l.toArray w eg (ecmpLays b7 g off l.toArray.size w h hO hne) (hL.holds encV_len (by omega)) hg hab (by simpa using hb) (by simpa using hn)
  change Calls Tryz.prog 86 _ _ _ at hcon
  simp only [List.size_toArray] at hcon
  refine hcon.mono ?_
  rintro e w' ⟨rfl, n, os, rfl⟩
  refine ⟨rfl, ?_, sortWorld_grown encV 2 w g off n _ os⟩
  refine live_of_holds encV_len (by omega) ?_ ?_
  · exact Nat.lt_of_lt_of_le hg (sortWorld_grown encV 2 w g off n (insertionSort (ltOf ecmp) l.toArray a b) os).size
  · have h1 := holdsK_putRowK encV 2 (Sort.ahead w n) g off l.toArray (insertionSort (ltOf ecmp) l.toArray a b) (holdsK_ahead encV 2 w n g off _ (hL.holds encV_len (by omega))) (by rw [insertionSort_size])
    have h2 := holdsK_grow encV 2 _ os g off (insertionSort (ltOf ecmp) l.toArray a b) (by simpa [putRowK, putRow, mapBlock, Sort.ahead] using hg) h1
    exact h2
set_option maxRecDepth 100000 in
set_option maxHeartbeats 4000000 in
theorem stableC_few (g off c b7 : Nat) (l : List (Int × Int)) (w : World) (hL : Live encV 2 w g off l) (hn : l.length < 20)
    (h : w.cell? ⟨b7, 0, none⟩ = some (.func (.func 61) #[] #[])) (hO : Nonempty (Old w b7)) (hne : b7 ≠ g) :
    Calls Tryz.prog 74 #[.slice (some ⟨g, off, none⟩) l.length c, .int .i64 l.length, .func (.func 63) #[] #[.pointer (some ⟨b7, 0, none⟩)]] w fun e w' => e = .returned (.tuple #[]) ∧ Live encV 2 w' g off (insertionSort (ltOf ecmp) l.toArray 0 l.length).toList ∧ w.grownBy w' (some g) := by
  have I := insert_any g off c b7 0 l.length l w hL (by omega) (by omega) (Nat.le_refl _) h hO hne
  have g1 : decide ((20 : Int) ≤ (l.length : Int)) = false := decide_eq_false (by omega)
  have g2 : decide ((20 : Int) < (l.length : Int)) = false := decide_eq_false (by omega)
  go_enter Tryz.func74, Tryz.ntmps74
  go_wp2_with fail
  go_loopg [7, 8] 0 (fun gas s7 s8 wr => s7 = .int .i64 0 ∧ s8 = .int .i64 20 ∧ wr = w)
  case atStart => exact ⟨rfl, rfl, rfl⟩
  case round =>
    obtain ⟨rfl, rfl, rfl⟩ := hrel
    go_wp2_with fail
    go_at_call 86
    refine I.mono ?_
    rintro e w' ⟨rfl, hl, hg⟩
    have HR := Lib.hid (And.intro hl hg)
    clear hl hg I
    go_wp2_with fail
    go_loopg [6] 0 (fun gas s6 wr => s6 = .int .i64 20 ∧ wr = w')
    case atStart => exact ⟨rfl, rfl⟩
    case round =>
      obtain ⟨rfl, rfl⟩ := hrel
      go_wp2_with fail
      go_end0
      exact ⟨rfl, HR.out.1, HR.out.2⟩
set_option maxRecDepth 100000 in
set_option maxHeartbeats 4000000 in
theorem stable_few (g off c b7 : Nat) (l : List (Int × Int)) (w : World) (hL : Live encV 2 w g off l) (hn : l.length < 20)
    (h : w.cell? ⟨b7, 0, none⟩ = some (.func (.func 61) #[] #[])) (hO : Nonempty (Old w b7)) (hne : b7 ≠ g) :
    Calls Tryz.prog 62 #[.slice (some ⟨g, off, none⟩) l.length c, .func (.func 63) #[] #[.pointer (some ⟨b7, 0, none⟩)]] w fun e w' => e = .returned (.tuple #[]) ∧ Live encV 2 w' g off (insertionSort (ltOf ecmp) l.toArray 0 l.length).toList ∧ w.grownBy w' (some g) := by
  have I := stableC_few g off c b7 l w hL hn h hO hne
  go_enter Tryz.func62, Tryz.ntmps62
  go_wp2_with fail
  go_at_call 74
  refine I.mono ?_
  rintro e w' ⟨rfl, hl, hg⟩
  have HR := Lib.hid (And.intro hl hg)
  clear hl hg I
  go_wp2_with fail
  go_end0
  exact ⟨rfl, HR.out.1, HR.out.2⟩
end Go.Proofs.YtpbgimdbhgahkaaGreat
