/- Layer 52: Check. -/
import Derived.Test.YtbceogoeoojdbaaSch4
namespace Go.Proofs.Ytbceogoeoojdbaa
open Go.RowKit Go.Sort
set_option linter.unusedVariables false
attribute [local go_sem ↓] Go.wp_at_zero Go.wp_at_succ

/-- A variable that holds a shop. -/
structure ShopAt (w : World) (g : Nat) (s : ShopR) : Prop where
  c0 : w.cell? ⟨g, 0, none⟩ = some (.slice s.A s.cals.length s.c)
  c1 : w.cell? ⟨g, 1, none⟩ = some (.slice s.B s.rows.length s.d)
  c2 : w.cell? ⟨g, 2, none⟩ = some (.int .i64 s.most)
  there : Nonempty (Old w g)
theorem ShopAt.of {w w' : World} {g : Nat} {s : ShopR} (h : ShopAt w g s) (hs : SinceOf w w') : ShopAt w' g s := by
  obtain ⟨z, rfl⟩ := hs
  have := h.there
  exact ⟨by rw [Since.cell]; exact h.c0, by rw [Since.cell]; exact h.c1, by rw [Since.cell]; exact h.c2, inferInstance⟩
theorem checkFn_any (s : ShopR) (j : JobR) (b : Nat) (w : World) (hs : ShopAt w b s) (hj : IsInts w j.A j.c j.ms) (hl : j.ms.length < 4611686018427387904) (hcl : s.cals.length < 4611686018427387904) (hrl : s.rows.length < 4611686018427387904) :
    Gives Try.prog 94 #[jobV j, .pointer (some ⟨b, 0, none⟩)] w (.bool (!jobB s j)) := by
  apply Gives.ret
  have J := fun W hW => job_any s j W (hj.of hW) hl hcl hrl
  obtain ⟨c0, c1, c2, hO⟩ := hs
  generalize jobB s j = q at *
  clear hj hl
  go_enter Try.func94, Try.ntmps94
  go_wp2_with fail
  refine (J _ (by (repeat (first | (with_reducible exact SinceOf.refl _) | (with_reducible assumption) | (with_reducible refine SinceOf.alloc ?_ _) | (with_reducible refine SinceOf.drew ?_) | (with_reducible refine SinceOf.drewN ?_ _) | (with_reducible refine SinceOf.later ?_ _) | (with_reducible refine SinceOf.further ?_ _) | (with_reducible refine SinceOf.setCell ?_ (by first | exact Nat.le_refl _ | (simp; done) | omega | (simp; omega)) _))))).calls.mono ?_
  rintro e _ ⟨rfl, x1, rfl⟩
  go_wp2_with fail
  go_returns
  exact ⟨rfl, by (repeat (first | (with_reducible exact LaterOf.refl _) | (with_reducible refine LaterOf.alloc ?_ _) | (with_reducible refine LaterOf.drew ?_) | (with_reducible refine LaterOf.drewN ?_ _) | (with_reducible refine LaterOf.later ?_ _) | (with_reducible refine LaterOf.setCell ?_ (by first | exact Nat.le_refl _ | (simp; done) | omega | (simp; omega)) _)))⟩
set_option maxRecDepth 100000 in
set_option maxHeartbeats 2000000 in
theorem indexJob_any (s : ShopR) (b : Nat) (A : Option Addr) (c : Nat) (L : List JobR) (w : World) (hs : ShopAt w b s) (h : IsJobs w A c L) (hcl : s.cals.length < 4611686018427387904) (hrl : s.rows.length < 4611686018427387904) :
    Calls Try.prog 110 #[.slice A L.length c, .func (.func 94) #[] #[.pointer (some ⟨b, 0, none⟩)]] w fun e w' => ∃ r : Int, e = .returned (.int .i64 r) ∧ decide (0 ≤ r) = L.any (fun j => !jobB s j) ∧ LaterOf w w' := by
  have H := Lib.hid (And.intro h hs)
  have hlen := h.len
  clear h hs
  go_enter Try.func110, Try.ntmps110
  go_wp2_with fail
  go_loopg [8] L.length (fun gas s8 wr => ∃ k : Nat, k ≤ L.length ∧ L.length - k ≤ gas ∧ s8 = .int .i64 k ∧ LaterOf w wr ∧ L.any (fun j => !jobB s j) = (L.drop k).any (fun j => !jobB s j))
  case atStart => exact ⟨0, by omega, by omega, rfl, by (repeat (first | (with_reducible exact LaterOf.refl _) | (with_reducible refine LaterOf.alloc ?_ _) | (with_reducible refine LaterOf.drew ?_) | (with_reducible refine LaterOf.drewN ?_ _) | (with_reducible refine LaterOf.later ?_ _) | (with_reducible refine LaterOf.setCell ?_ (by first | exact Nat.le_refl _ | (simp; done) | omega | (simp; omega)) _))), by rw [List.drop_zero]⟩
  case round =>
    obtain ⟨k, hk, hgas, rfl, ⟨z, rfl⟩, hany⟩ := hrel
    by_cases hlt : k < L.length
    · have hc := (H.out.1.of (LaterOf.since ⟨z, rfl⟩))
      have hja := hc.all _ (List.getElem_mem hlt)
      have C := checkFn_any s L[k] b z.wd (H.out.2.of (LaterOf.since ⟨z, rfl⟩)) hja.1 hja.2 hcl hrl
      obtain ⟨g, off, rfl, hr⟩ := hc.row.at_ (by omega)
      have hO := hr.there
      have k0 := hr.j0 k hlt
      have k1 := hr.j1 k hlt
      have k2 := hr.j2 k hlt
      have k3 := hr.j3 k hlt
      have k4 := hr.j4 k hlt
      have k5 := hr.j5 k hlt
      rw [any_drop (fun j => !jobB s j) hlt] at hany
      generalize L[k] = x at *
      clear hc hr hja
      cases hx : jobB s x
      · rw [hx] at C hany
        rw [Bool.not_false, Bool.true_or] at hany
        have HA := Lib.hid hany
        clear hany hx
        go_wp2_with fail
        refine C.calls.mono ?_
        rintro e _ ⟨rfl, x1, rfl⟩
        go_wp2_with fail
        go_returns
        exact ⟨k, rfl, by rw [HA.out]; simp, by (repeat (first | (with_reducible exact LaterOf.refl _) | (with_reducible refine LaterOf.alloc ?_ _) | (with_reducible refine LaterOf.drew ?_) | (with_reducible refine LaterOf.drewN ?_ _) | (with_reducible refine LaterOf.later ?_ _) | (with_reducible refine LaterOf.setCell ?_ (by first | exact Nat.le_refl _ | (simp; done) | omega | (simp; omega)) _)))⟩
      · rw [hx] at C hany
        rw [Bool.not_true, Bool.false_or] at hany
        have HA := Lib.hid hany
        clear hany hx
        go_wp2_with fail
        refine C.calls.mono ?_
        rintro e _ ⟨rfl, x1, rfl⟩
        go_wp2_with fail
        go_roundg (L.length - (k + 1))
        case measure => omega
        case rel => exact ⟨k + 1, hlt, Nat.le_refl _, by go_num, by (repeat (first | (with_reducible exact LaterOf.refl _) | (with_reducible refine LaterOf.alloc ?_ _) | (with_reducible refine LaterOf.drew ?_) | (with_reducible refine LaterOf.drewN ?_ _) | (with_reducible refine LaterOf.later ?_ _) | (with_reducible refine LaterOf.setCell ?_ (by first | exact Nat.le_refl _ | (simp; done) | omega | (simp; omega)) _))), HA.out⟩
    · have hkl : k = L.length := by omega
      rw [hkl, List.drop_length] at hany
      have HA := Lib.hid hany
      clear hany
      go_wp2_with fail
      go_returns
      exact ⟨-1, rfl, by rw [HA.out]; rfl, by (repeat (first | (with_reducible exact LaterOf.refl _) | (with_reducible refine LaterOf.alloc ?_ _) | (with_reducible refine LaterOf.drew ?_) | (with_reducible refine LaterOf.drewN ?_ _) | (with_reducible refine LaterOf.later ?_ _) | (with_reducible refine LaterOf.setCell ?_ (by first | exact Nat.le_refl _ | (simp; done) | omega | (simp; omega)) _)))⟩
theorem containsJob_any (s : ShopR) (b : Nat) (A : Option Addr) (c : Nat) (L : List JobR) (w : World) (hs : ShopAt w b s) (h : IsJobs w A c L) (hcl : s.cals.length < 4611686018427387904) (hrl : s.rows.length < 4611686018427387904) :
    Gives Try.prog 93 #[.slice A L.length c, .func (.func 94) #[] #[.pointer (some ⟨b, 0, none⟩)]] w (.bool (L.any (fun j => !jobB s j))) := by
  apply Gives.ret
  have H := Lib.hid (And.intro h hs)
  clear h hs
  go_enter Try.func93, Try.ntmps93
  go_wp2_with fail
  refine (indexJob_any s b A c L _ H.out.2 H.out.1 hcl hrl).mono ?_
  rintro e _ ⟨r, rfl, hr, ⟨z, rfl⟩⟩
  have HA := Lib.hid hr
  clear hr
  go_wp2_with fail
  go_returns
  exact ⟨by show Ending.returned (.bool (decide (0 ≤ r))) = _; rw [HA.out], by (repeat (first | (with_reducible exact LaterOf.refl _) | (with_reducible refine LaterOf.alloc ?_ _) | (with_reducible refine LaterOf.drew ?_) | (with_reducible refine LaterOf.drewN ?_ _) | (with_reducible refine LaterOf.later ?_ _) | (with_reducible refine LaterOf.setCell ?_ (by first | exact Nat.le_refl _ | (simp; done) | omega | (simp; omega)) _)))⟩
def checkS (s : ShopR) (L : List JobR) : Bool := shopB s && (decide ((L.length : Int) ≤ 40) && !L.any (fun j => !jobB s j))
set_option maxHeartbeats 1000000 in
theorem check_any (s : ShopR) (A : Option Addr) (c : Nat) (L : List JobR) (w : World) (hs : IsShop w s) (h : IsJobs w A c L) : Gives Try.prog 58 #[shopV s, .slice A L.length c] w (.bool (checkS s L)) := by
  apply Gives.ret
  have SH := fun W hW => shop_any s W (hs.of hW)
  have hcl := hs.cals.len
  have hrl := hs.rows.len
  have hlen := h.len
  have CJ := fun b W (hW : SinceOf w W) hb => containsJob_any s b A c L W hb (h.of hW) hcl hrl
  have e : checkS s L = (shopB s && (decide ((L.length : Int) ≤ 40) && !L.any (fun j => !jobB s j))) := rfl
  rw [e]
  clear e
  generalize shopB s = q1 at *
  generalize L.any (fun j => !jobB s j) = q3 at *
  clear hs h
  cases q1
  · go_enter Try.func58, Try.ntmps58
    go_wp2_with fail
    refine (SH _ (by (repeat (first | (with_reducible exact SinceOf.refl _) | (with_reducible assumption) | (with_reducible refine SinceOf.alloc ?_ _) | (with_reducible refine SinceOf.drew ?_) | (with_reducible refine SinceOf.drewN ?_ _) | (with_reducible refine SinceOf.later ?_ _) | (with_reducible refine SinceOf.further ?_ _) | (with_reducible refine SinceOf.setCell ?_ (by first | exact Nat.le_refl _ | (simp; done) | omega | (simp; omega)) _))))).calls.mono ?_
    rintro e _ ⟨rfl, x1, rfl⟩
    go_wp2_with fail
    go_returns
    exact ⟨by simp, by (repeat (first | (with_reducible exact LaterOf.refl _) | (with_reducible refine LaterOf.alloc ?_ _) | (with_reducible refine LaterOf.drew ?_) | (with_reducible refine LaterOf.drewN ?_ _) | (with_reducible refine LaterOf.later ?_ _) | (with_reducible refine LaterOf.setCell ?_ (by first | exact Nat.le_refl _ | (simp; done) | omega | (simp; omega)) _)))⟩
  · have hcase : decide (L.length ≤ 40) = false ∧ decide ((L.length : Int) ≤ 40) = false ∨ decide (L.length ≤ 40) = true ∧ decide ((L.length : Int) ≤ 40) = true := by
      by_cases h40 : L.length ≤ 40
      · exact .inr ⟨by simpa using h40, by simp; omega⟩
      · exact .inl ⟨by simpa using h40, by simp; omega⟩
    rcases hcase with ⟨e1, e2⟩ | ⟨e1, e2⟩
    · go_enter Try.func58, Try.ntmps58
      go_wp2_with fail
      refine (SH _ (by (repeat (first | (with_reducible exact SinceOf.refl _) | (with_reducible assumption) | (with_reducible refine SinceOf.alloc ?_ _) | (with_reducible refine SinceOf.drew ?_) | (with_reducible refine SinceOf.drewN ?_ _) | (with_reducible refine SinceOf.later ?_ _) | (with_reducible refine SinceOf.further ?_ _) | (with_reducible refine SinceOf.setCell ?_ (by first | exact Nat.le_refl _ | (simp; done) | omega | (simp; omega)) _))))).calls.mono ?_
      rintro e _ ⟨rfl, x1, rfl⟩
      go_wp2_with fail
      go_returns
      exact ⟨by rw [e2]; simp, by (repeat (first | (with_reducible exact LaterOf.refl _) | (with_reducible refine LaterOf.alloc ?_ _) | (with_reducible refine LaterOf.drew ?_) | (with_reducible refine LaterOf.drewN ?_ _) | (with_reducible refine LaterOf.later ?_ _) | (with_reducible refine LaterOf.setCell ?_ (by first | exact Nat.le_refl _ | (simp; done) | omega | (simp; omega)) _)))⟩
    · go_enter Try.func58, Try.ntmps58
      go_wp2_with fail
      refine (SH _ (by (repeat (first | (with_reducible exact SinceOf.refl _) | (with_reducible assumption) | (with_reducible refine SinceOf.alloc ?_ _) | (with_reducible refine SinceOf.drew ?_) | (with_reducible refine SinceOf.drewN ?_ _) | (with_reducible refine SinceOf.later ?_ _) | (with_reducible refine SinceOf.further ?_ _) | (with_reducible refine SinceOf.setCell ?_ (by first | exact Nat.le_refl _ | (simp; done) | omega | (simp; omega)) _))))).calls.mono ?_
      rintro e _ ⟨rfl, x1, rfl⟩
      go_wp2_with fail
      refine (CJ _ _ (by (repeat (first | (with_reducible exact SinceOf.refl _) | (with_reducible assumption) | (with_reducible refine SinceOf.alloc ?_ _) | (with_reducible refine SinceOf.drew ?_) | (with_reducible refine SinceOf.drewN ?_ _) | (with_reducible refine SinceOf.later ?_ _) | (with_reducible refine SinceOf.further ?_ _) | (with_reducible refine SinceOf.setCell ?_ (by first | exact Nat.le_refl _ | (simp; done) | omega | (simp; omega)) _)))) ⟨by simp [go_sem], by simp [go_sem], by simp [go_sem], inferInstance⟩).calls.mono ?_
      rintro e _ ⟨rfl, x2, rfl⟩
      go_wp2_with fail
      go_returns
      exact ⟨by rw [e2]; simp, by (repeat (first | (with_reducible exact LaterOf.refl _) | (with_reducible refine LaterOf.alloc ?_ _) | (with_reducible refine LaterOf.drew ?_) | (with_reducible refine LaterOf.drewN ?_ _) | (with_reducible refine LaterOf.later ?_ _) | (with_reducible refine LaterOf.setCell ?_ (by first | exact Nat.le_refl _ | (simp; done) | omega | (simp; omega)) _)))⟩
end Go.Proofs.Ytbceogoeoojdbaa
