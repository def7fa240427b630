/- Layer 52: shops, jobs, slots as data; shop. -/
import Derived.Test.YtbceogoeoojdbaaSch1
namespace Go.Proofs.Ytbceogoeoojdbaa
open Go.RowKit Go.Sort
set_option linter.unusedVariables false
attribute [local go_sem ↓] Go.wp_at_zero Go.wp_at_succ

def encN (x : Int) : List Value := [.int .i64 x]
abbrev IsInts (w : World) (A : Option Addr) (c : Nat) (l : List Int) : Prop := IsRow encN 1 w A c l
theorem RowAt.n0 {w : World} {g off : Nat} {l : List Int} (h : RowAt encN 1 w g off l) (i : Nat) (hi : i < l.length) : w.cell? ⟨g, off + i, none⟩ = some (.int .i64 l[i]) := by
  have := h.cells i hi 0 _ rfl
  simpa using this
structure CalR where
  P : Int
  A : Option Addr
  c : Nat
  S : List (Int × Int)
  B : Option Addr
  d : Nat
  D : List (Int × Int)
def encC (x : CalR) : List Value := [.int .i64 x.P, .slice x.A x.S.length x.c, .slice x.B x.D.length x.d]
structure IsCals (w : World) (A : Option Addr) (c : Nat) (L : List CalR) : Prop where
  row : IsRow encC 3 w A c L
  all : ∀ x ∈ L, IsCal w x.P x.A x.S.length x.c x.B x.D.length x.d x.S x.D
  len : L.length < 4611686018427387904
structure RowR where
  A : Option Addr
  c : Nat
  xs : List Int
def encR (x : RowR) : List Value := [.slice x.A x.xs.length x.c]
structure IsRows (w : World) (A : Option Addr) (c : Nat) (L : List RowR) : Prop where
  row : IsRow encR 1 w A c L
  all : ∀ x ∈ L, IsInts w x.A x.c x.xs ∧ x.xs.length < 4611686018427387904
  len : L.length < 4611686018427387904
structure ShopR where
  A : Option Addr
  c : Nat
  cals : List CalR
  B : Option Addr
  d : Nat
  rows : List RowR
  most : Int
abbrev shopV (s : ShopR) : Value := .agg #[.slice s.A s.cals.length s.c, .slice s.B s.rows.length s.d, .int .i64 s.most]
structure IsShop (w : World) (s : ShopR) : Prop where
  cals : IsCals w s.A s.c s.cals
  rows : IsRows w s.B s.d s.rows
theorem IsCals.of {w w' : World} {A : Option Addr} {c : Nat} {L : List CalR} (h : IsCals w A c L) (hs : SinceOf w w') : IsCals w' A c L := ⟨h.row.of hs, fun x hx => (h.all x hx).of hs, h.len⟩
theorem IsRows.of {w w' : World} {A : Option Addr} {c : Nat} {L : List RowR} (h : IsRows w A c L) (hs : SinceOf w w') : IsRows w' A c L := ⟨h.row.of hs, fun x hx => ⟨(h.all x hx).1.of hs, (h.all x hx).2⟩, h.len⟩
theorem IsShop.of {w w' : World} {s : ShopR} (h : IsShop w s) (hs : SinceOf w w') : IsShop w' s := ⟨h.cals.of hs, h.rows.of hs⟩
theorem RowAt.k0 {w : World} {g off : Nat} {l : List CalR} (h : RowAt encC 3 w g off l) (i : Nat) (hi : i < l.length) : w.cell? ⟨g, off + i * 3, none⟩ = some (.int .i64 l[i].P) := h.cells i hi 0 _ rfl
theorem RowAt.k1 {w : World} {g off : Nat} {l : List CalR} (h : RowAt encC 3 w g off l) (i : Nat) (hi : i < l.length) : w.cell? ⟨g, off + i * 3 + 1, none⟩ = some (.slice l[i].A l[i].S.length l[i].c) := h.cells i hi 1 _ rfl
theorem RowAt.k2 {w : World} {g off : Nat} {l : List CalR} (h : RowAt encC 3 w g off l) (i : Nat) (hi : i < l.length) : w.cell? ⟨g, off + i * 3 + 2, none⟩ = some (.slice l[i].B l[i].D.length l[i].d) := h.cells i hi 2 _ rfl
theorem RowAt.r0 {w : World} {g off : Nat} {l : List RowR} (h : RowAt encR 1 w g off l) (i : Nat) (hi : i < l.length) : w.cell? ⟨g, off + i, none⟩ = some (.slice l[i].A l[i].xs.length l[i].c) := by
  have := h.cells i hi 0 _ rfl
  simpa using this

def wrongC (x : CalR) : Bool := !validB x.P x.S x.D
theorem shopWrong_any (x : CalR) (w : World) (h : IsCal w x.P x.A x.S.length x.c x.B x.D.length x.d x.S x.D) : Gives Try.prog 108 #[CalV x.P x.A x.S.length x.c x.B x.D.length x.d] w (.bool (wrongC x)) := by
  apply Gives.ret
  have V := h.valid (v := validB x.P x.S x.D) rfl
  unfold wrongC
  clear h
  go_enter Try.func108, Try.ntmps108
  go_wp2_with fail
  refine (V _ (by (repeat (first | (with_reducible exact SinceOf.refl _) | (with_reducible assumption) | (with_reducible refine SinceOf.alloc ?_ _) | (with_reducible refine SinceOf.drew ?_) | (with_reducible refine SinceOf.drewN ?_ _) | (with_reducible refine SinceOf.later ?_ _) | (with_reducible refine SinceOf.further ?_ _) | (with_reducible refine SinceOf.setCell ?_ (by first | exact Nat.le_refl _ | (simp; done) | omega | (simp; omega)) _))))).calls.mono ?_
  rintro e _ ⟨rfl, x1, rfl⟩
  go_wp2_with fail
  go_returns
  exact ⟨rfl, by (repeat (first | (with_reducible exact LaterOf.refl _) | (with_reducible refine LaterOf.alloc ?_ _) | (with_reducible refine LaterOf.drew ?_) | (with_reducible refine LaterOf.drewN ?_ _) | (with_reducible refine LaterOf.later ?_ _) | (with_reducible refine LaterOf.setCell ?_ (by first | exact Nat.le_refl _ | (simp; done) | omega | (simp; omega)) _)))⟩
theorem any_drop {α : Type} (f : α → Bool) {l : List α} {k : Nat} (h : k < l.length) : (l.drop k).any f = (f l[k] || (l.drop (k + 1)).any f) := by
  rw [List.drop_eq_getElem_cons h, List.any_cons]
set_option maxRecDepth 100000 in
set_option maxHeartbeats 2000000 in
theorem indexCal_any (A : Option Addr) (c : Nat) (L : List CalR) (w : World) (h : IsCals w A c L) : Calls Try.prog 130 #[.slice A L.length c, .func (Fn.func 108) #[] #[]] w fun e w' => ∃ r : Int, e = .returned (.int .i64 r) ∧ decide (0 ≤ r) = L.any wrongC ∧ LaterOf w w' := by
  have H := Lib.hid h
  have hlen := h.len
  clear h
  go_enter Try.func130, Try.ntmps130
  go_wp2_with fail
  go_loopg [8] L.length (fun gas s8 wr => ∃ k : Nat, k ≤ L.length ∧ L.length - k ≤ gas ∧ s8 = .int .i64 k ∧ LaterOf w wr ∧ L.any wrongC = (L.drop k).any wrongC)
  case atStart => exact ⟨0, by omega, by omega, rfl, by (repeat (first | (with_reducible exact LaterOf.refl _) | (with_reducible refine LaterOf.alloc ?_ _) | (with_reducible refine LaterOf.drew ?_) | (with_reducible refine LaterOf.drewN ?_ _) | (with_reducible refine LaterOf.later ?_ _) | (with_reducible refine LaterOf.setCell ?_ (by first | exact Nat.le_refl _ | (simp; done) | omega | (simp; omega)) _))), by rw [List.drop_zero]⟩
  case round =>
    obtain ⟨k, hk, hgas, rfl, ⟨z, rfl⟩, hany⟩ := hrel
    by_cases hlt : k < L.length
    · have hc := (H.out.of (LaterOf.since ⟨z, rfl⟩))
      have C := shopWrong_any L[k] z.wd (hc.all _ (List.getElem_mem hlt))
      obtain ⟨g, off, rfl, hr⟩ := hc.row.at_ (by omega)
      have hO := hr.there
      have k0 := hr.k0 k hlt
      have k1 := hr.k1 k hlt
      have k2 := hr.k2 k hlt
      rw [any_drop wrongC hlt] at hany
      generalize L[k] = x at *
      clear hc hr
      cases hx : wrongC x
      · rw [hx] at C hany
        rw [Bool.false_or] at hany
        have HA := Lib.hid hany
        clear hany hx
        go_wp2_with fail
        refine C.calls.mono ?_
        rintro e _ ⟨rfl, x1, rfl⟩
        go_wp2_with fail
        go_roundg (L.length - (k + 1))
        case measure => omega
        case rel => exact ⟨k + 1, hlt, Nat.le_refl _, by go_num, by (repeat (first | (with_reducible exact LaterOf.refl _) | (with_reducible refine LaterOf.alloc ?_ _) | (with_reducible refine LaterOf.drew ?_) | (with_reducible refine LaterOf.drewN ?_ _) | (with_reducible refine LaterOf.later ?_ _) | (with_reducible refine LaterOf.setCell ?_ (by first | exact Nat.le_refl _ | (simp; done) | omega | (simp; omega)) _))), HA.out⟩
      · rw [hx] at C hany
        rw [Bool.true_or] at hany
        have HA := Lib.hid hany
        clear hany hx
        go_wp2_with fail
        refine C.calls.mono ?_
        rintro e _ ⟨rfl, x1, rfl⟩
        go_wp2_with fail
        go_returns
        exact ⟨k, rfl, by rw [HA.out]; simp, by (repeat (first | (with_reducible exact LaterOf.refl _) | (with_reducible refine LaterOf.alloc ?_ _) | (with_reducible refine LaterOf.drew ?_) | (with_reducible refine LaterOf.drewN ?_ _) | (with_reducible refine LaterOf.later ?_ _) | (with_reducible refine LaterOf.setCell ?_ (by first | exact Nat.le_refl _ | (simp; done) | omega | (simp; omega)) _)))⟩
    · have hkl : k = L.length := by omega
      rw [hkl, List.drop_length] at hany
      have HA := Lib.hid hany
      clear hany
      go_wp2_with fail
      go_returns
      exact ⟨-1, rfl, by rw [HA.out]; rfl, by (repeat (first | (with_reducible exact LaterOf.refl _) | (with_reducible refine LaterOf.alloc ?_ _) | (with_reducible refine LaterOf.drew ?_) | (with_reducible refine LaterOf.drewN ?_ _) | (with_reducible refine LaterOf.later ?_ _) | (with_reducible refine LaterOf.setCell ?_ (by first | exact Nat.le_refl _ | (simp; done) | omega | (simp; omega)) _)))⟩
theorem containsCal_any (A : Option Addr) (c : Nat) (L : List CalR) (w : World) (h : IsCals w A c L) : Gives Try.prog 109 #[.slice A L.length c, .func (Fn.func 108) #[] #[]] w (.bool (L.any wrongC)) := by
  apply Gives.ret
  have H := Lib.hid h
  clear h
  go_enter Try.func109, Try.ntmps109
  go_wp2_with fail
  refine (indexCal_any A c L _ H.out).mono ?_
  rintro e _ ⟨r, rfl, hr, ⟨z, rfl⟩⟩
  have HA := Lib.hid hr
  clear hr
  go_wp2_with fail
  go_returns
  exact ⟨by show Ending.returned (.bool (decide (0 ≤ r))) = _; rw [HA.out], by (repeat (first | (with_reducible exact LaterOf.refl _) | (with_reducible refine LaterOf.alloc ?_ _) | (with_reducible refine LaterOf.drew ?_) | (with_reducible refine LaterOf.drewN ?_ _) | (with_reducible refine LaterOf.later ?_ _) | (with_reducible refine LaterOf.setCell ?_ (by first | exact Nat.le_refl _ | (simp; done) | omega | (simp; omega)) _)))⟩
end Go.Proofs.Ytbceogoeoojdbaa
