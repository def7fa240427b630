/- Layer 52: the conversions of jobs and of shops. -/
import Derived.Test.YtpaojgfmffkodaaGreatLSch28
import Derived.Test.YtpaojgfmffkodaaGreatLSchP2
import Derived.Test.YtpaojgfmffkodaaGreatLSch20
import Derived.Test.YtpaojgfmffkodaaGreatLRepP8
namespace Go.Proofs.YtpaojgfmffkodaaGreat
set_option linter.unusedVariables false
set_option linter.unusedSimpArgs false
open Go.RowKit Go.Sort
attribute [local go_sem ↓] Go.wp_at_zero Go.wp_at_succ
theorem infoCal : (Tryz.prog.info? 83).map (fun i => (i.zero, i.size, i.bytes)) = some (some (.agg #[.int .i64 0, .slice none 0 0, .slice none 0 0]), 3, 56) := by kernel_rfl
theorem encC_one (p : CalR) : ∀ u ∈ encC p, u.oneCell' = true := by
  intro u hu; simp [encC] at hu; rcases hu with rfl | rfl | rfl <;> rfl
theorem rowC_at (W : World) (g : Nat) (x : CalR) (t : TypeId) (hg : W.heap.size = g) : IsRow encC 3 (W.alloc (.cells #[.int .i64 x.P, .slice x.A x.S.length x.c, .slice x.B x.D.length x.d] t)) (some ⟨g, 0, none⟩) 1 [x] := by
  subst hg; exact isRow_lit encC_len _ _ _ _ 1 [x] rfl rfl (by simp) rfl
def withCals (s : ShopR) (A : Option Addr) (c : Nat) : ShopR := ⟨A, c, s.cals, s.B, s.d, s.rows, s.most⟩
structure OutAt (w : World) (g : Nat) (A : Option Addr) (n c : Nat) (B : Option Addr) (k d : Nat) (m : Int) : Prop where
  c0 : w.cell? ⟨g, 0, none⟩ = some (.slice A n c)
  c1 : w.cell? ⟨g, 1, none⟩ = some (.slice B k d)
  c2 : w.cell? ⟨g, 2, none⟩ = some (.int .i64 m)
  f0 : w.frozen? ⟨g, 0, none⟩ = false
  there : Nonempty (Old w g)
set_option maxRecDepth 100000 in
set_option maxHeartbeats 4000000 in
theorem own52_any (s : ShopR) (w : World) (hs : IsShop w s) (hll : s.cals.length ≤ 1000000) :
    Calls Tryz.prog 12 #[shopV s] w fun e w' => ∃ A' c', e = .returned (shopV (withCals s A' c')) ∧ IsShop w' (withCals s A' c') ∧ (∀ b, blockOf A' = some b → w.heap.size ≤ b ∧ b < w'.heap.size) ∧ SinceOf w w' := by
  have H := Lib.hid hs
  obtain ⟨i0, hi, hz0, hz1, hz2⟩ := info_parts infoCal
  have HI := Lib.hid (And.intro hi (And.intro hz0 (And.intro hz1 hz2)))
  have hcr := hs.cals.row
  obtain ⟨sA, sc, cals, sB, sd, R, most⟩ := s
  simp only at hcr hll
  have HR := Lib.hid hcr
  clear hi hz0 hz1 hz2 hs hcr
  go_enter Tryz.func12, Tryz.ntmps12
  go_wp2_with fail
  go_loopg [14] cals.length (fun gas s14 wr => ∃ (k : Nat) (A2 : Option Addr) (c2 : Nat), k ≤ cals.length ∧ cals.length - k ≤ gas ∧ s14 = .int .i64 k ∧ Owns encC 3 (w.heap.size + 3) 83 wr A2 c2 (cals.take k) ∧ OutAt wr (w.heap.size + 1 + 1) A2 k c2 sB R.length sd most ∧ SinceOf ((w.alloc (.cells #[.slice sA cals.length sc, .slice sB R.length sd, .int .i64 most] 25)).alloc (.cells #[.slice none 0 0, .slice none 0 0, .int .i64 0] 37)) wr)
  case atStart => exact ⟨0, none, 0, by omega, by omega, rfl, Owns.nil _ _ _ _ _, ⟨by simp [go_sem], by simp [go_sem], by simp [go_sem], by simp [go_sem], inferInstance⟩, Sx⟩
  case round =>
    obtain ⟨k, A2, c2, hk, hgas, rfl, hown, hout, ⟨z, rfl⟩⟩ := hrel
    by_cases hlt : k < cals.length
    · have hr0 := HR.out.of (w' := z.wd) Sx
      obtain ⟨g, off, rfl, hr⟩ := hr0.at_ (by omega)
      have hO1 := hr.there
      have j0 := hr.k0 k hlt
      have j1 := hr.k1 k hlt
      have j2 := hr.k2 k hlt
      have hts := List.take_succ_eq_append_getElem hlt
      have htl : (cals.take k).length = k := by rw [List.length_take]; omega
      obtain ⟨o0, o1, o2, q0, hO⟩ := hout
      have hzs := z.size
      generalize cals[k] = x at *
      obtain ⟨xP, xA, xc, xS, xB, xd, xD⟩ := x
      simp only at j0 j1 j2
      have HH := Lib.hid (And.intro hown (And.intro hts (And.intro htl HI.out)))
      rw [← htl] at o0
      have hm1 : (cals.take k).length ≤ 1000000 := by omega
      generalize cals.take k = m at *
      have hOs := hO.elim fun q => q.lt
      have hne2 : some z.wd.heap.size ≠ blockOf A2 := fun e => by have := (hown.below _ e.symm).2; omega
      have hne : some (w.heap.size + 1 + 1) ≠ blockOf A2 := fun e => by have := (hown.below _ e.symm).1; omega
      clear hown hts hr hr0 htl
      go_wp2_with fail
      go_region_law
        (first
          | (go_simp; go_at_call 41; refine (own_any _ _ _ _ _ _ _ _).calls.mono ?_; rintro e _ ⟨rfl, z1, rfl⟩; (try dsimp only))
          | (refine step_append_row (by rfl) (.tmp 19) (.tmp 22) 35 (by rfl) encC_len (by omega) encC_one i0 _ 56 Tryz.underlying35 HH.out.2.2.2.1 HH.out.2.2.2.2.1 HH.out.2.2.2.2.2.1 HH.out.2.2.2.2.2.2 rfl (l := m) (A := A2) (c := c2) (base := w.heap.size + 3) (by rfl) (HH.out.1.of Sx) (m := [⟨xP, xA, xc, xS, xB, xd, xD⟩]) (by rfl) (rowC_at _ _ ⟨xP, xA, xc, xS, xB, xd, xD⟩ _ (by first | rfl | simp)) (by unfold maxLen; simp; omega) (by simp; omega) (by have := z1.size; simp at this ⊢; omega) ?_; intro A3 c3 w4 ho hgr4 hb4; have n0 : w4.cell? ⟨w.heap.size + 1 + 1, 0, none⟩ = some (.slice A2 m.length c2) := hgr4.cell (by simp [go_sem, *]) hne; have n1 : w4.cell? ⟨w.heap.size + 1 + 1, 1, none⟩ = some (.slice sB R.length sd) := hgr4.cell (by simp [go_sem, *]) hne; have n2 : w4.cell? ⟨w.heap.size + 1 + 1, 2, none⟩ = some (.int .i64 most) := hgr4.cell (by simp [go_sem, *]) hne; have nf : w4.frozen? ⟨w.heap.size + 1 + 1, 0, none⟩ = false := (World.frozen?_of_block (hgr4.block (w.heap.size + 1 + 1) (by have := z1.size; simp at this ⊢; omega) hne)).trans (by simp [go_sem, *]); have p0 : w4.cell? ⟨z.wd.heap.size, 0, none⟩ = some (.int .i64 xP) := hgr4.cell (by simp [go_sem, *]) hne2; have p1 : w4.cell? ⟨z.wd.heap.size, 1, none⟩ = some (.slice xA xS.length xc) := hgr4.cell (by simp [go_sem, *]) hne2; have p2 : w4.cell? ⟨z.wd.heap.size, 2, none⟩ = some (.slice xB xD.length xd) := hgr4.cell (by simp [go_sem, *]) hne2))
      all_goals
        go_wp2_with fail
        go_roundg (cals.length - (k + 1))
        case measure => omega
        case rel =>
          have hA3 : blockOf A3 ≠ some (w.heap.size + 1 + 1) := fun e => by have := (ho.below _ e).1; omega
          have hml := HH.out.2.2.1
          refine ⟨k + 1, A3, c3, hlt, Nat.le_refl _, by go_num, ?_, ⟨?_, (World.cell?_setCell_other _ _ _ _ (by simp)).trans n1, (World.cell?_setCell_other _ _ _ _ (by simp)).trans n2, by simpa using nf, ?_⟩, ?_⟩
          · rw [HH.out.2.1]
            exact ho.kept (grownBy_setCell (p := ⟨w.heap.size + 1 + 1, 0, none⟩) rfl _) (.inr hA3)
          · rw [← hml]
            exact World.cell?_setCell_same _ _ _ n0
          · have e1 := hgr4.size
            have e2 := z1.size
            simp at e1 e2
            exact ⟨⟨by simp; omega⟩⟩
          · exact SinceOf.setCell (SinceOf.grown Sx hgr4 (fun b hb => by have := (HH.out.1.below b hb).1; simp; omega)) (by simp) _
    · have hkl : k = cals.length := by omega
      have e : cals.take k = cals := by rw [hkl, List.take_length]
      rw [e] at hown
      have HH := Lib.hid hown
      obtain ⟨o0, o1, o2, q0, hO⟩ := hout
      rw [hkl] at o0
      clear hown e hkl
      go_wp2_with fail
      go_returns
      have b1 : ∀ b, blockOf A2 = some b → b ≠ w.heap.size + 1 := fun b hb => by have := (HH.out.below b hb).1; omega
      exact ⟨A2, c2, rfl, ⟨⟨(((HH.out.isRow encC_len).setOther _ _ _ b1).setOther _ _ _ b1).setOther _ _ _ b1, fun x hx => (H.out.cals.all x hx).of Sx, H.out.cals.len⟩, H.out.rows.of Sx⟩, fun b hb => by have := HH.out.below b hb; simp; omega, Sx⟩
end Go.Proofs.YtpaojgfmffkodaaGreat
/- Layer 52: shops and jobs in later worlds; Own and Jobs as rows; lengths of small problems. -/
namespace Go.Proofs.YtpaojgfmffkodaaGreat
set_option linter.unusedVariables false
set_option linter.unusedSimpArgs false
open Go.RowKit Go.Sort
attribute [local go_sem ↓] Go.wp_at_zero Go.wp_at_succ
section
variable {α : Type} {enc : α → List Value} {k : Nat} {w : World} {A : Option Addr} {c : Nat} {l : List α}
end
theorem own52b_any (s : ShopR) (w : World) (hs : IsShop w s) (hll : s.cals.length ≤ 1000000) :
    Calls Tryz.prog 12 #[shopV s] w fun e w' => ∃ A' c', e = .returned (shopV (withCals s A' c')) ∧ IsRow encC 3 w' A' c' s.cals ∧ (∀ b, blockOf A' = some b → w.heap.size ≤ b ∧ b < w'.heap.size) ∧ SinceOf w w' :=
  (own52_any s w hs hll).mono fun e w' ⟨A', c', he, ho, hb, hs⟩ => ⟨A', c', he, ho.cals.row, hb, hs⟩
theorem shop_at {w W : World} {s : ShopR} {A : Option Addr} {c : Nat} (hs : IsShop w s) (hr : IsRow encC 3 W A c s.cals) (hW : SinceOf w W) : IsShop W (withCals s A c) := ⟨⟨hr, fun x hx => (hs.cals.all x hx).of hW, hs.cals.len⟩, hs.rows.of hW⟩
theorem jobs_at {w W : World} {L : List JobR} {A B : Option Addr} {c d : Nat} (hs : IsJobs w A c L) (hr : IsRow encJ 6 W B d L) (hW : SinceOf w W) : IsJobs W B d L := ⟨hr, fun x hx => ⟨(hs.all x hx).1.of hW, (hs.all x hx).2⟩, hs.len⟩
end Go.Proofs.YtpaojgfmffkodaaGreat
/- Layer 54: the closures over slots (a slot of a job), begun. -/
namespace Go.Proofs.YtpaojgfmffkodaaGreat
set_option linter.unusedVariables false
set_option linter.unusedSimpArgs false
open Go.RowKit Go.Sort
attribute [local go_sem ↓] Go.wp_at_zero Go.wp_at_succ
set_option maxRecDepth 100000 in
set_option maxHeartbeats 2000000 in
theorem indexBegun_any (v1 : Value) (p : SlotR → Bool) (A : Option Addr) (c : Nat) (l : List SlotR) (w : World) (h : IsSlots w A c l) (hlen : l.length < 4611686018427387904) (hf : ∀ W, SinceOf w W → ∀ y ∈ l, Gives Tryz.prog 69 #[slotV y, v1] W (.bool (p y))) :
    Calls Tryz.prog 75 #[.slice A l.length c, .func (.func 69) #[] #[v1]] w fun e w' => ∃ r : Int, e = .returned (.int .i64 r) ∧ decide (0 ≤ r) = l.any p ∧ LaterOf w w' := by
  have H := Lib.hid h
  clear h
  go_enter Tryz.func75, Tryz.ntmps75
  go_wp2_with fail
  go_loopg [8] l.length (fun gas s8 wr => ∃ k : Nat, k ≤ l.length ∧ l.length - k ≤ gas ∧ s8 = .int .i64 k ∧ LaterOf w wr ∧ l.any p = (l.drop k).any p)
  case atStart => exact ⟨0, by omega, by omega, rfl, Lx, by rw [List.drop_zero]⟩
  case round =>
    obtain ⟨k, hk, hgas, rfl, ⟨z, rfl⟩, hany⟩ := hrel
    by_cases hlt : k < l.length
    · have hc := (H.out.of (LaterOf.since ⟨z, rfl⟩))
      have C := hf z.wd (LaterOf.since ⟨z, rfl⟩) _ (List.getElem_mem hlt)
      obtain ⟨g, off, rfl, hr⟩ := hc.at_ (by omega)
      have hO := hr.there
      have k0 := hr.s0 k hlt
      have k1 := hr.s1 k hlt
      have k2 := hr.s2 k hlt
      have k3 := hr.s3 k hlt
      rw [any_drop p hlt] at hany
      generalize l[k] = x at *
      clear hc hr
      cases hx : p x
      · rw [hx] at C hany
        rw [Bool.false_or] at hany
        have HA := Lib.hid hany
        clear hany hx
        go_wp2_with fail
        refine C.calls.mono ?_
        rintro e _ ⟨rfl, x1, rfl⟩
        go_wp2_with fail
        go_roundg (l.length - (k + 1))
        case measure => omega
        case rel => exact ⟨k + 1, hlt, Nat.le_refl _, by go_num, Lx, HA.out⟩
      · rw [hx] at C hany
        rw [Bool.true_or] at hany
        have HA := Lib.hid hany
        clear hany hx
        go_wp2_with fail
        refine C.calls.mono ?_
        rintro e _ ⟨rfl, x1, rfl⟩
        go_wp2_with fail
        go_returns
        exact ⟨k, rfl, by rw [HA.out]; simp, Lx⟩
    · have hkl : k = l.length := by omega
      rw [hkl, List.drop_length] at hany
      have HA := Lib.hid hany
      clear hany
      go_wp2_with fail
      go_returns
      exact ⟨-1, rfl, by rw [HA.out]; rfl, Lx⟩
theorem containsBegun_any (v1 : Value) (p : SlotR → Bool) (A : Option Addr) (c : Nat) (l : List SlotR) (w : World) (h : IsSlots w A c l) (hlen : l.length < 4611686018427387904) (hf : ∀ W, SinceOf w W → ∀ y ∈ l, Gives Tryz.prog 69 #[slotV y, v1] W (.bool (p y))) :
    Gives Tryz.prog 68 #[.slice A l.length c, .func (.func 69) #[] #[v1]] w (.bool (l.any p)) := by
  apply Gives.ret
  have H := Lib.hid (And.intro h hf)
  clear h hf
  go_enter Tryz.func68, Tryz.ntmps68
  go_wp2_with fail
  refine (indexBegun_any v1 p A c l _ H.out.1 hlen H.out.2).mono ?_
  rintro e _ ⟨r, rfl, hr, ⟨z, rfl⟩⟩
  have HA := Lib.hid hr
  clear hr
  go_wp2_with fail
  go_returns
  exact ⟨by show Ending.returned (.bool (decide (0 ≤ r))) = _; rw [HA.out], Lx⟩
set_option maxRecDepth 100000 in
set_option maxHeartbeats 2000000 in
theorem indexRest_any (v1 : Value) (p : SlotR → Bool) (A : Option Addr) (c : Nat) (l : List SlotR) (w : World) (h : IsSlots w A c l) (hlen : l.length < 4611686018427387904) (hf : ∀ W, SinceOf w W → ∀ y ∈ l, Gives Tryz.prog 87 #[slotV y, v1] W (.bool (p y))) :
    Calls Tryz.prog 75 #[.slice A l.length c, .func (.func 87) #[] #[v1]] w fun e w' => ∃ r : Int, e = .returned (.int .i64 r) ∧ decide (0 ≤ r) = l.any p ∧ LaterOf w w' := by
  have H := Lib.hid h
  clear h
  go_enter Tryz.func75, Tryz.ntmps75
  go_wp2_with fail
  go_loopg [8] l.length (fun gas s8 wr => ∃ k : Nat, k ≤ l.length ∧ l.length - k ≤ gas ∧ s8 = .int .i64 k ∧ LaterOf w wr ∧ l.any p = (l.drop k).any p)
  case atStart => exact ⟨0, by omega, by omega, rfl, Lx, by rw [List.drop_zero]⟩
  case round =>
    obtain ⟨k, hk, hgas, rfl, ⟨z, rfl⟩, hany⟩ := hrel
    by_cases hlt : k < l.length
    · have hc := (H.out.of (LaterOf.since ⟨z, rfl⟩))
      have C := hf z.wd (LaterOf.since ⟨z, rfl⟩) _ (List.getElem_mem hlt)
      obtain ⟨g, off, rfl, hr⟩ := hc.at_ (by omega)
      have hO := hr.there
      have k0 := hr.s0 k hlt
      have k1 := hr.s1 k hlt
      have k2 := hr.s2 k hlt
      have k3 := hr.s3 k hlt
      rw [any_drop p hlt] at hany
      generalize l[k] = x at *
      clear hc hr
      cases hx : p x
      · rw [hx] at C hany
        rw [Bool.false_or] at hany
        have HA := Lib.hid hany
        clear hany hx
        go_wp2_with fail
        refine C.calls.mono ?_
        rintro e _ ⟨rfl, x1, rfl⟩
        go_wp2_with fail
        go_roundg (l.length - (k + 1))
        case measure => omega
        case rel => exact ⟨k + 1, hlt, Nat.le_refl _, by go_num, Lx, HA.out⟩
      · rw [hx] at C hany
        rw [Bool.true_or] at hany
        have HA := Lib.hid hany
        clear hany hx
        go_wp2_with fail
        refine C.calls.mono ?_
        rintro e _ ⟨rfl, x1, rfl⟩
        go_wp2_with fail
        go_returns
        exact ⟨k, rfl, by rw [HA.out]; simp, Lx⟩
    · have hkl : k = l.length := by omega
      rw [hkl, List.drop_length] at hany
      have HA := Lib.hid hany
      clear hany
      go_wp2_with fail
      go_returns
      exact ⟨-1, rfl, by rw [HA.out]; rfl, Lx⟩
theorem containsRest_any (v1 : Value) (p : SlotR → Bool) (A : Option Addr) (c : Nat) (l : List SlotR) (w : World) (h : IsSlots w A c l) (hlen : l.length < 4611686018427387904) (hf : ∀ W, SinceOf w W → ∀ y ∈ l, Gives Tryz.prog 87 #[slotV y, v1] W (.bool (p y))) :
    Gives Tryz.prog 68 #[.slice A l.length c, .func (.func 87) #[] #[v1]] w (.bool (l.any p)) := by
  apply Gives.ret
  have H := Lib.hid (And.intro h hf)
  clear h hf
  go_enter Tryz.func68, Tryz.ntmps68
  go_wp2_with fail
  refine (indexRest_any v1 p A c l _ H.out.1 hlen H.out.2).mono ?_
  rintro e _ ⟨r, rfl, hr, ⟨z, rfl⟩⟩
  have HA := Lib.hid hr
  clear hr
  go_wp2_with fail
  go_returns
  exact ⟨by show Ending.returned (.bool (decide (0 ≤ r))) = _; rw [HA.out], Lx⟩
theorem begunCl_any (x : SlotR) (j : Int) (g : Nat) (w : World) [Nonempty (Old w g)] (hc : w.cell? ⟨g, 0, none⟩ = some (.int .i64 j)) : Gives Tryz.prog 69 #[slotV x, .pointer (some ⟨g, 0, none⟩)] w (.bool (x.job == j)) := by
  apply Gives.ret
  obtain ⟨x0, x1, x2, x3⟩ := x
  go_enter Tryz.func69, Tryz.ntmps69
  go_wp2_with fail
  go_returns
  exact ⟨rfl, Lx⟩
theorem restCl_any (x : SlotR) (j : Int) (g : Nat) (w : World) [Nonempty (Old w g)] (hc : w.cell? ⟨g, 0, none⟩ = some (.int .i64 j)) : Gives Tryz.prog 87 #[slotV x, .pointer (some ⟨g, 0, none⟩)] w (.bool (x.job == j)) := by
  apply Gives.ret
  obtain ⟨x0, x1, x2, x3⟩ := x
  go_enter Tryz.func87, Tryz.ntmps87
  go_wp2_with fail
  go_returns
  exact ⟨rfl, Lx⟩
set_option maxHeartbeats 4000000 in
theorem begunC_any (g : Nat) (A : Option Addr) (c : Nat) (l : List SlotR) (j : Int) (w : World) [Nonempty (Old w g)] (hc : w.cell? ⟨g, 4, none⟩ = some (.slice A l.length c)) (h : IsSlots w A c l) (hl : l.length < 4611686018427387904) :
    Gives Tryz.prog 33 #[.pointer (some ⟨g, 0, none⟩), .int .i64 j] w (.bool (begunJ l j)) := by
  apply Gives.ret
  have H := Lib.hid h
  clear h
  go_enter Tryz.func33, Tryz.ntmps33
  go_wp2_with fail
  refine (containsBegun_any _ (fun y => y.job == j) A c l _ (H.out.of Sx) hl (fun W hW y hy => ?_)).calls.mono ?_
  · have hO : Nonempty (Old W w.heap.size) := by obtain ⟨z, rfl⟩ := hW; infer_instance
    exact begunCl_any y j w.heap.size W (by obtain ⟨z, rfl⟩ := hW; simp [go_sem])
  · rintro e _ ⟨rfl, z, rfl⟩
    go_wp2_with fail
    go_returns
    exact ⟨rfl, Lx⟩
end Go.Proofs.YtpaojgfmffkodaaGreat
/- Layer 54: rows of different element types lie in different blocks. -/
namespace Go.Proofs.YtpaojgfmffkodaaGreat
set_option linter.unusedVariables false
set_option linter.unusedSimpArgs false
open Go.RowKit Go.Sort
def SameBut (es : List TypeId) (w w' : World) : Prop := ∀ (g : Nat) (cur : Array Value) (e : TypeId) (fz : Nat × Nat), e ∉ es → w.heap[g]? = some (Obj.cells cur e fz) → w'.heap[g]? = some (Obj.cells cur e fz)
theorem SameBut.refl (es : List TypeId) (w : World) : SameBut es w w := fun _ _ _ _ _ h => h
theorem SameBut.trans {es : List TypeId} {a b c : World} (h : SameBut es a b) (k : SameBut es b c) : SameBut es a c := fun g cur e fz he hg => k g cur e fz he (h g cur e fz he hg)
theorem heap_lt {w : World} {g : Nat} {o : Obj} (h : w.heap[g]? = some o) : g < w.heap.size := by
  rcases Nat.lt_or_ge g w.heap.size with hlt | hge
  · exact hlt
  · rw [Array.getElem?_eq_none hge] at h; cases h
theorem SameBut.since {es : List TypeId} {w w' : World} (h : SinceOf w w') : SameBut es w w' := by
  obtain ⟨z, rfl⟩ := h
  intro g cur e fz _ hg
  rw [z.below.block g (heap_lt hg)]
  exact hg
theorem SameBut.grown {es : List TypeId} {w w' : World} {row : Option Nat} (h : w.grownBy w' row) (hr : ∀ g, row = some g → ∃ cur e fz, e ∈ es ∧ w.heap[g]? = some (Obj.cells cur e fz)) : SameBut es w w' := by
  intro g cur e fz he hg
  rw [h.block g (heap_lt hg) ?_]
  · exact hg
  · intro e2
    obtain ⟨cur2, e3, fz2, h1, h2⟩ := hr g e2.symm
    rw [h2] at hg
    injection hg with hg
    injection hg with _ hg _
    subst hg
    exact he h1
theorem SameBut.set {es : List TypeId} {w : World} {g i : Nat} {u : Value} (h : ∃ cur e fz, e ∈ es ∧ w.heap[g]? = some (Obj.cells cur e fz)) : SameBut es w (w.setCell ⟨g, i, none⟩ u) := by
  obtain ⟨cur, e, fz, he, hg⟩ := h
  intro g2 cur2 e2 fz2 he2 hg2
  have hne : g ≠ g2 := by
    rintro rfl
    rw [hg] at hg2
    injection hg2 with hg2
    injection hg2 with _ hg2 _
    subst hg2
    exact he2 he
  show (w.heap.modify _ _)[g2]? = _
  rw [Array.getElem?_modify, if_neg hne]
  exact hg2
section
variable {α : Type} {enc : α → List Value} {k base : Nat} {e : TypeId} {w w' : World} {A : Option Addr} {c : Nat} {l : List α} {es : List TypeId}
theorem Owns.sameBut (h : Owns enc k base e w A c l) (he : e ∉ es) (hs : SameBut es w w') : Owns enc k base e w' A c l := by
  obtain ⟨h1, h2⟩ := h
  refine ⟨h1, ?_⟩
  rcases h2 with h2 | ⟨g, cap, cur, hv, hb, hg, r⟩
  · exact .inl h2
  · exact .inr ⟨g, cap, cur, hv, hb, hs g cur e (0, 0) he hg, r⟩
theorem Owns.typed (h : Owns enc k base e w A c l) : ∀ g, blockOf A = some g → ∃ cur, w.heap[g]? = some (Obj.cells cur e (0, 0)) := by
  intro b hb
  obtain ⟨h1, h2⟩ := h
  rcases h2 with ⟨h2, h3⟩ | ⟨g, cap, cur, hv, hbg, hg, r⟩
  · injection h2 with h2 _ _
    subst h2
    simp [blockOf] at hb
  · injection hv with hv _ _
    subst hv
    simp [blockOf] at hb
    subst hb
    exact ⟨cur, hg⟩
end
section
variable {w w' : World} {b0 g : Nat} {now : Int} {s : ShopR} {A : Option Addr} {c : Nat} {L : List JobR} {gA : Option Addr} {gc : Nat} {bg : List SlotR} {pA : Option Addr} {pc : Nat} {pd : List SlotR} {dA : Option Addr} {dc : Nat} {dr : List Bool}
end
end Go.Proofs.YtpaojgfmffkodaaGreat
