/- Layer 52: costs and small functions. -/
import Derived.Test.YtdcncalcncomoaaCal12
import Derived.WalkLawsBesides
namespace Go.Proofs.Ytdcncalcncomoaa
open Go.RowKit Go.Sort
set_option linter.unusedVariables false
attribute [local go_sem ↓] Go.wp_at_zero Go.wp_at_succ

def cmpi (a b : Int) : Int := if a < b then -1 else if b < a then 1 else 0
theorem cmpi_cases (a b : Int) : (a < b ∧ cmpi a b = -1) ∨ (¬ a < b ∧ b < a ∧ cmpi a b = 1) ∨ (¬ a < b ∧ ¬ b < a ∧ cmpi a b = 0) := by
  unfold cmpi; by_cases h1 : a < b
  · exact .inl ⟨h1, if_pos h1⟩
  · by_cases h2 : b < a
    · exact .inr (.inl ⟨h1, h2, by rw [if_neg h1, if_pos h2]⟩)
    · exact .inr (.inr ⟨h1, h2, by rw [if_neg h1, if_neg h2]⟩)
def or4 (a b c d : Int) : Int := if a = 0 then (if b = 0 then (if c = 0 then d else c) else b) else a
abbrev costV (a b c d : Int) : Value := .agg #[.int .i64 a, .int .i64 b, .int .i64 c, .int .i64 d]
/-- Is the one cost less than the other? -/
def lessC (a0 a1 a2 a3 b0 b1 b2 b3 : Int) : Bool := decide (or4 (cmpi a0 b0) (cmpi a1 b1) (cmpi a2 b2) (cmpi a3 b3) < 0)
theorem cmpInt_any (a b : Int) (w : World) : Calls Try.prog 62 #[.int .i64 a, .int .i64 b] w fun e w' => e = .returned (.int .i64 (cmpi a b)) ∧ w = w' := by
  rcases cmpi_cases a b with ⟨h1, e⟩ | ⟨h1, h2, e⟩ | ⟨h1, h2, e⟩ <;> rw [e] <;> clear e <;> go_enter Try.func62, Try.ntmps62 <;> go_wp2 <;> go_returns <;> exact ⟨rfl, rfl⟩
theorem cmpOr4_any (a b c d : Int) (g n : Nat) (w : World) (h0 : w.cell? ⟨g, 0, none⟩ = some (.int .i64 a)) (h1 : w.cell? ⟨g, 1, none⟩ = some (.int .i64 b)) (h2 : w.cell? ⟨g, 2, none⟩ = some (.int .i64 c)) (h3 : w.cell? ⟨g, 3, none⟩ = some (.int .i64 d)) :
    Calls Try.prog 61 #[.slice (some ⟨g, 0, none⟩) 4 n] w fun e w' => e = .returned (.int .i64 (or4 a b c d)) ∧ w = w' := by
  by_cases ha : a = 0
  · subst ha
    by_cases hb : b = 0
    · subst hb
      by_cases hc : c = 0
      · subst hc
        by_cases hd : d = 0
        · subst hd
          go_enter Try.func61, Try.ntmps61
          go_wp2
          go_rounds 5
          go_returns
          exact ⟨by simp [or4], rfl⟩
        · go_enter Try.func61, Try.ntmps61
          go_wp2
          go_rounds 5
          go_returns
          exact ⟨by simp [or4], rfl⟩
      · go_enter Try.func61, Try.ntmps61
        go_wp2
        go_rounds 5
        go_returns
        exact ⟨by simp [or4, hc], rfl⟩
    · go_enter Try.func61, Try.ntmps61
      go_wp2
      go_rounds 5
      go_returns
      exact ⟨by simp [or4, hb], rfl⟩
  · go_enter Try.func61, Try.ntmps61
    go_wp2
    go_rounds 5
    go_returns
    exact ⟨by simp [or4, ha], rfl⟩
set_option maxRecDepth 100000 in
set_option maxHeartbeats 2000000 in
theorem schLess_any (a0 a1 a2 a3 b0 b1 b2 b3 : Int) (w : World) : Gives Try.prog 41 #[costV a0 a1 a2 a3, costV b0 b1 b2 b3] w (.bool (lessC a0 a1 a2 a3 b0 b1 b2 b3)) := by
  apply Gives.ret
  go_enter Try.func41, Try.ntmps41
  go_wp2_with fail
  go_region_held3 (fun w' => w'.cell? ⟨w.heap.size, 0, none⟩ = some (.int .i64 a0) ∧ w'.cell? ⟨w.heap.size, 1, none⟩ = some (.int .i64 a1) ∧ w'.cell? ⟨w.heap.size, 2, none⟩ = some (.int .i64 a2) ∧ w'.cell? ⟨w.heap.size, 3, none⟩ = some (.int .i64 a3) ∧
      w'.cell? ⟨w.heap.size + 1, 0, none⟩ = some (.int .i64 b0) ∧ w'.cell? ⟨w.heap.size + 1, 1, none⟩ = some (.int .i64 b1) ∧ w'.cell? ⟨w.heap.size + 1, 2, none⟩ = some (.int .i64 b2) ∧ w'.cell? ⟨w.heap.size + 1, 3, none⟩ = some (.int .i64 b3)) (go_keep)
    (first | (go_at_call 62; refine (cmpInt_any _ _ _).mono ?_; rintro e w' ⟨rfl, rfl⟩) | (go_at_call 61; refine (cmpOr4_any (cmpi a0 b0) (cmpi a1 b1) (cmpi a2 b2) (cmpi a3 b3) _ _ _ (by simp [go_sem]) (by simp [go_sem]) (by simp [go_sem]) (by simp [go_sem])).mono ?_; rintro e w' ⟨rfl, rfl⟩))
  all_goals
    go_wp2_with fail
    go_returns
    exact ⟨rfl, by (repeat (first | (with_reducible exact LaterOf.refl _) | (with_reducible refine LaterOf.alloc ?_ _) | (with_reducible refine LaterOf.drew ?_) | (with_reducible refine LaterOf.drewN ?_ _) | (with_reducible refine LaterOf.later ?_ _) | (with_reducible refine LaterOf.setCell ?_ (by first | exact Nat.le_refl _ | (simp; done) | omega | (simp; omega)) _)))⟩
theorem lessC_cases (a0 a1 a2 a3 b0 b1 b2 b3 : Int) : (a0 ≠ b0 ∧ lessC a0 a1 a2 a3 b0 b1 b2 b3 = decide (a0 < b0)) ∨ (a0 = b0 ∧ a1 ≠ b1 ∧ lessC a0 a1 a2 a3 b0 b1 b2 b3 = decide (a1 < b1)) ∨
    (a0 = b0 ∧ a1 = b1 ∧ a2 ≠ b2 ∧ lessC a0 a1 a2 a3 b0 b1 b2 b3 = decide (a2 < b2)) ∨ (a0 = b0 ∧ a1 = b1 ∧ a2 = b2 ∧ lessC a0 a1 a2 a3 b0 b1 b2 b3 = decide (a3 < b3)) := by
  have k : ∀ a b : Int, (cmpi a b = 0 ↔ a = b) ∧ (cmpi a b < 0 ↔ a < b) := fun a b => by rcases cmpi_cases a b with ⟨h1, e⟩ | ⟨h1, h2, e⟩ | ⟨h1, h2, e⟩ <;> rw [e] <;> omega
  unfold lessC or4
  by_cases h0 : a0 = b0
  · by_cases h1 : a1 = b1
    · by_cases h2 : a2 = b2
      · right; right; right
        refine ⟨h0, h1, h2, ?_⟩
        rw [if_pos ((k _ _).1.2 h0), if_pos ((k _ _).1.2 h1), if_pos ((k _ _).1.2 h2)]
        rw [decide_eq_decide]; exact (k _ _).2
      · right; right; left
        refine ⟨h0, h1, h2, ?_⟩
        rw [if_pos ((k _ _).1.2 h0), if_pos ((k _ _).1.2 h1), if_neg (fun h => h2 ((k _ _).1.1 h))]
        rw [decide_eq_decide]; exact (k _ _).2
    · right; left
      refine ⟨h0, h1, ?_⟩
      rw [if_pos ((k _ _).1.2 h0), if_neg (fun h => h1 ((k _ _).1.1 h))]
      rw [decide_eq_decide]; exact (k _ _).2
  · left
    refine ⟨h0, ?_⟩
    rw [if_neg (fun h => h0 ((k _ _).1.1 h))]
    rw [decide_eq_decide]; exact (k _ _).2
set_option maxHeartbeats 1000000 in
theorem refLess_any (a0 a1 a2 a3 b0 b1 b2 b3 : Int) (w : World) : Gives Try.prog 21 #[costV a0 a1 a2 a3, costV b0 b1 b2 b3] w (.bool (lessC a0 a1 a2 a3 b0 b1 b2 b3)) := by
  apply Gives.ret
  rcases lessC_cases a0 a1 a2 a3 b0 b1 b2 b3 with ⟨h0, e⟩ | ⟨rfl, h1, e⟩ | ⟨rfl, rfl, h2, e⟩ | ⟨rfl, rfl, rfl, e⟩ <;> rw [e] <;> clear e
  · have f : (a0 != b0) = true := by simpa using h0
    go_enter Try.func21, Try.ntmps21
    go_wp2_with fail
    go_returns
    exact ⟨rfl, by (repeat (first | (with_reducible exact LaterOf.refl _) | (with_reducible refine LaterOf.alloc ?_ _) | (with_reducible refine LaterOf.drew ?_) | (with_reducible refine LaterOf.drewN ?_ _) | (with_reducible refine LaterOf.later ?_ _) | (with_reducible refine LaterOf.setCell ?_ (by first | exact Nat.le_refl _ | (simp; done) | omega | (simp; omega)) _)))⟩
  · have f : (a1 != b1) = true := by simpa using h1
    go_enter Try.func21, Try.ntmps21
    go_wp2_with fail
    go_returns
    exact ⟨rfl, by (repeat (first | (with_reducible exact LaterOf.refl _) | (with_reducible refine LaterOf.alloc ?_ _) | (with_reducible refine LaterOf.drew ?_) | (with_reducible refine LaterOf.drewN ?_ _) | (with_reducible refine LaterOf.later ?_ _) | (with_reducible refine LaterOf.setCell ?_ (by first | exact Nat.le_refl _ | (simp; done) | omega | (simp; omega)) _)))⟩
  · have f : (a2 != b2) = true := by simpa using h2
    go_enter Try.func21, Try.ntmps21
    go_wp2_with fail
    go_returns
    exact ⟨rfl, by (repeat (first | (with_reducible exact LaterOf.refl _) | (with_reducible refine LaterOf.alloc ?_ _) | (with_reducible refine LaterOf.drew ?_) | (with_reducible refine LaterOf.drewN ?_ _) | (with_reducible refine LaterOf.later ?_ _) | (with_reducible refine LaterOf.setCell ?_ (by first | exact Nat.le_refl _ | (simp; done) | omega | (simp; omega)) _)))⟩
  · go_enter Try.func21, Try.ntmps21
    go_wp2_with fail
    go_returns
    exact ⟨rfl, by (repeat (first | (with_reducible exact LaterOf.refl _) | (with_reducible refine LaterOf.alloc ?_ _) | (with_reducible refine LaterOf.drew ?_) | (with_reducible refine LaterOf.drewN ?_ _) | (with_reducible refine LaterOf.later ?_ _) | (with_reducible refine LaterOf.setCell ?_ (by first | exact Nat.le_refl _ | (simp; done) | omega | (simp; omega)) _)))⟩
theorem in_any (n lo hi : Int) (w : World) : Calls Try.prog 51 #[.int .i64 n, .int .i64 lo, .int .i64 hi] w fun e w' => e = .returned (.bool (decide (lo ≤ n) && decide (n ≤ hi))) ∧ w = w' := by
  by_cases h1 : lo ≤ n
  · go_enter Try.func51, Try.ntmps51
    go_wp2_with fail
    go_returns
    exact ⟨by simp [h1], rfl⟩
  · have h1' : decide (lo ≤ n) = false := decide_eq_false h1
    go_enter Try.func51, Try.ntmps51
    go_wp2_with fail
    go_returns
    exact ⟨by simp [h1], rfl⟩
end Go.Proofs.Ytdcncalcncomoaa
/- Layer 52: shops, jobs, slots as data; shop. -/
namespace Go.Proofs.Ytdcncalcncomoaa
open Go.RowKit Go.Sort
set_option linter.unusedVariables false
attribute [local go_sem ↓] Go.wp_at_zero Go.wp_at_succ

def encN (x : Int) : List Value := [.int .i64 x]
abbrev IsInts (w : World) (A : Option Addr) (c : Nat) (l : List Int) : Prop := IsRow encN 1 w A c l
theorem RowAt.n0 {w : World} {g off : Nat} {l : List Int} (h : RowAt encN 1 w g off l) (i : Nat) (hi : i < l.length) : w.cell? ⟨g, off + i, none⟩ = some (.int .i64 l[i]) := by
  have := h.cells i hi 0 _ rfl
  simpa using this
structure CalR where
  P : Int
  A : Option Addr
  c : Nat
  S : List (Int × Int)
  B : Option Addr
  d : Nat
  D : List (Int × Int)
def encC (x : CalR) : List Value := [.int .i64 x.P, .slice x.A x.S.length x.c, .slice x.B x.D.length x.d]
structure IsCals (w : World) (A : Option Addr) (c : Nat) (L : List CalR) : Prop where
  row : IsRow encC 3 w A c L
  all : ∀ x ∈ L, IsCal w x.P x.A x.S.length x.c x.B x.D.length x.d x.S x.D
  len : L.length < 4611686018427387904
structure RowR where
  A : Option Addr
  c : Nat
  xs : List Int
def encR (x : RowR) : List Value := [.slice x.A x.xs.length x.c]
structure IsRows (w : World) (A : Option Addr) (c : Nat) (L : List RowR) : Prop where
  row : IsRow encR 1 w A c L
  all : ∀ x ∈ L, IsInts w x.A x.c x.xs ∧ x.xs.length < 4611686018427387904
  len : L.length < 4611686018427387904
structure ShopR where
  A : Option Addr
  c : Nat
  cals : List CalR
  B : Option Addr
  d : Nat
  rows : List RowR
  most : Int
abbrev shopV (s : ShopR) : Value := .agg #[.slice s.A s.cals.length s.c, .slice s.B s.rows.length s.d, .int .i64 s.most]
structure IsShop (w : World) (s : ShopR) : Prop where
  cals : IsCals w s.A s.c s.cals
  rows : IsRows w s.B s.d s.rows
theorem IsCals.of {w w' : World} {A : Option Addr} {c : Nat} {L : List CalR} (h : IsCals w A c L) (hs : SinceOf w w') : IsCals w' A c L := ⟨h.row.of hs, fun x hx => (h.all x hx).of hs, h.len⟩
theorem IsRows.of {w w' : World} {A : Option Addr} {c : Nat} {L : List RowR} (h : IsRows w A c L) (hs : SinceOf w w') : IsRows w' A c L := ⟨h.row.of hs, fun x hx => ⟨(h.all x hx).1.of hs, (h.all x hx).2⟩, h.len⟩
theorem IsShop.of {w w' : World} {s : ShopR} (h : IsShop w s) (hs : SinceOf w w') : IsShop w' s := ⟨h.cals.of hs, h.rows.of hs⟩
theorem RowAt.k0 {w : World} {g off : Nat} {l : List CalR} (h : RowAt encC 3 w g off l) (i : Nat) (hi : i < l.length) : w.cell? ⟨g, off + i * 3, none⟩ = some (.int .i64 l[i].P) := h.cells i hi 0 _ rfl
theorem RowAt.k1 {w : World} {g off : Nat} {l : List CalR} (h : RowAt encC 3 w g off l) (i : Nat) (hi : i < l.length) : w.cell? ⟨g, off + i * 3 + 1, none⟩ = some (.slice l[i].A l[i].S.length l[i].c) := h.cells i hi 1 _ rfl
theorem RowAt.k2 {w : World} {g off : Nat} {l : List CalR} (h : RowAt encC 3 w g off l) (i : Nat) (hi : i < l.length) : w.cell? ⟨g, off + i * 3 + 2, none⟩ = some (.slice l[i].B l[i].D.length l[i].d) := h.cells i hi 2 _ rfl
theorem RowAt.r0 {w : World} {g off : Nat} {l : List RowR} (h : RowAt encR 1 w g off l) (i : Nat) (hi : i < l.length) : w.cell? ⟨g, off + i, none⟩ = some (.slice l[i].A l[i].xs.length l[i].c) := by
  have := h.cells i hi 0 _ rfl
  simpa using this

def wrongC (x : CalR) : Bool := !validB x.P x.S x.D
theorem shopWrong_any (x : CalR) (w : World) (h : IsCal w x.P x.A x.S.length x.c x.B x.D.length x.d x.S x.D) : Gives Try.prog 66 #[CalV x.P x.A x.S.length x.c x.B x.D.length x.d] w (.bool (wrongC x)) := by
  apply Gives.ret
  have V := h.valid (v := validB x.P x.S x.D) rfl
  unfold wrongC
  clear h
  go_enter Try.func66, Try.ntmps66
  go_wp2_with fail
  refine (V _ (by (repeat (first | (with_reducible exact SinceOf.refl _) | (with_reducible assumption) | (with_reducible refine SinceOf.alloc ?_ _) | (with_reducible refine SinceOf.drew ?_) | (with_reducible refine SinceOf.drewN ?_ _) | (with_reducible refine SinceOf.later ?_ _) | (with_reducible refine SinceOf.further ?_ _) | (with_reducible refine SinceOf.setCell ?_ (by first | exact Nat.le_refl _ | (simp; done) | omega | (simp; omega)) _))))).calls.mono ?_
  rintro e _ ⟨rfl, x1, rfl⟩
  go_wp2_with fail
  go_returns
  exact ⟨rfl, by (repeat (first | (with_reducible exact LaterOf.refl _) | (with_reducible refine LaterOf.alloc ?_ _) | (with_reducible refine LaterOf.drew ?_) | (with_reducible refine LaterOf.drewN ?_ _) | (with_reducible refine LaterOf.later ?_ _) | (with_reducible refine LaterOf.setCell ?_ (by first | exact Nat.le_refl _ | (simp; done) | omega | (simp; omega)) _)))⟩
theorem any_drop {α : Type} (f : α → Bool) {l : List α} {k : Nat} (h : k < l.length) : (l.drop k).any f = (f l[k] || (l.drop (k + 1)).any f) := by
  rw [List.drop_eq_getElem_cons h, List.any_cons]
set_option maxRecDepth 100000 in
set_option maxHeartbeats 2000000 in
theorem indexCal_any (A : Option Addr) (c : Nat) (L : List CalR) (w : World) (h : IsCals w A c L) : Calls Try.prog 86 #[.slice A L.length c, .func (Fn.func 66) #[] #[]] w fun e w' => ∃ r : Int, e = .returned (.int .i64 r) ∧ decide (0 ≤ r) = L.any wrongC ∧ LaterOf w w' := by
  have H := Lib.hid h
  have hlen := h.len
  clear h
  go_enter Try.func86, Try.ntmps86
  go_wp2_with fail
  go_loopg [8] L.length (fun gas s8 wr => ∃ k : Nat, k ≤ L.length ∧ L.length - k ≤ gas ∧ s8 = .int .i64 k ∧ LaterOf w wr ∧ L.any wrongC = (L.drop k).any wrongC)
  case atStart => exact ⟨0, by omega, by omega, rfl, by (repeat (first | (with_reducible exact LaterOf.refl _) | (with_reducible refine LaterOf.alloc ?_ _) | (with_reducible refine LaterOf.drew ?_) | (with_reducible refine LaterOf.drewN ?_ _) | (with_reducible refine LaterOf.later ?_ _) | (with_reducible refine LaterOf.setCell ?_ (by first | exact Nat.le_refl _ | (simp; done) | omega | (simp; omega)) _))), by rw [List.drop_zero]⟩
  case round =>
    obtain ⟨k, hk, hgas, rfl, ⟨z, rfl⟩, hany⟩ := hrel
    by_cases hlt : k < L.length
    · have hc := (H.out.of (LaterOf.since ⟨z, rfl⟩))
      have C := shopWrong_any L[k] z.wd (hc.all _ (List.getElem_mem hlt))
      obtain ⟨g, off, rfl, hr⟩ := hc.row.at_ (by omega)
      have hO := hr.there
      have k0 := hr.k0 k hlt
      have k1 := hr.k1 k hlt
      have k2 := hr.k2 k hlt
      rw [any_drop wrongC hlt] at hany
      generalize L[k] = x at *
      clear hc hr
      cases hx : wrongC x
      · rw [hx] at C hany
        rw [Bool.false_or] at hany
        have HA := Lib.hid hany
        clear hany hx
        go_wp2_with fail
        refine C.calls.mono ?_
        rintro e _ ⟨rfl, x1, rfl⟩
        go_wp2_with fail
        go_roundg (L.length - (k + 1))
        case measure => omega
        case rel => exact ⟨k + 1, hlt, Nat.le_refl _, by go_num, by (repeat (first | (with_reducible exact LaterOf.refl _) | (with_reducible refine LaterOf.alloc ?_ _) | (with_reducible refine LaterOf.drew ?_) | (with_reducible refine LaterOf.drewN ?_ _) | (with_reducible refine LaterOf.later ?_ _) | (with_reducible refine LaterOf.setCell ?_ (by first | exact Nat.le_refl _ | (simp; done) | omega | (simp; omega)) _))), HA.out⟩
      · rw [hx] at C hany
        rw [Bool.true_or] at hany
        have HA := Lib.hid hany
        clear hany hx
        go_wp2_with fail
        refine C.calls.mono ?_
        rintro e _ ⟨rfl, x1, rfl⟩
        go_wp2_with fail
        go_returns
        exact ⟨k, rfl, by rw [HA.out]; simp, by (repeat (first | (with_reducible exact LaterOf.refl _) | (with_reducible refine LaterOf.alloc ?_ _) | (with_reducible refine LaterOf.drew ?_) | (with_reducible refine LaterOf.drewN ?_ _) | (with_reducible refine LaterOf.later ?_ _) | (with_reducible refine LaterOf.setCell ?_ (by first | exact Nat.le_refl _ | (simp; done) | omega | (simp; omega)) _)))⟩
    · have hkl : k = L.length := by omega
      rw [hkl, List.drop_length] at hany
      have HA := Lib.hid hany
      clear hany
      go_wp2_with fail
      go_returns
      exact ⟨-1, rfl, by rw [HA.out]; rfl, by (repeat (first | (with_reducible exact LaterOf.refl _) | (with_reducible refine LaterOf.alloc ?_ _) | (with_reducible refine LaterOf.drew ?_) | (with_reducible refine LaterOf.drewN ?_ _) | (with_reducible refine LaterOf.later ?_ _) | (with_reducible refine LaterOf.setCell ?_ (by first | exact Nat.le_refl _ | (simp; done) | omega | (simp; omega)) _)))⟩
theorem containsCal_any (A : Option Addr) (c : Nat) (L : List CalR) (w : World) (h : IsCals w A c L) : Gives Try.prog 68 #[.slice A L.length c, .func (Fn.func 66) #[] #[]] w (.bool (L.any wrongC)) := by
  apply Gives.ret
  have H := Lib.hid h
  clear h
  go_enter Try.func68, Try.ntmps68
  go_wp2_with fail
  refine (indexCal_any A c L _ H.out).mono ?_
  rintro e _ ⟨r, rfl, hr, ⟨z, rfl⟩⟩
  have HA := Lib.hid hr
  clear hr
  go_wp2_with fail
  go_returns
  exact ⟨by show Ending.returned (.bool (decide (0 ≤ r))) = _; rw [HA.out], by (repeat (first | (with_reducible exact LaterOf.refl _) | (with_reducible refine LaterOf.alloc ?_ _) | (with_reducible refine LaterOf.drew ?_) | (with_reducible refine LaterOf.drewN ?_ _) | (with_reducible refine LaterOf.later ?_ _) | (with_reducible refine LaterOf.setCell ?_ (by first | exact Nat.le_refl _ | (simp; done) | omega | (simp; omega)) _)))⟩
end Go.Proofs.Ytdcncalcncomoaa
