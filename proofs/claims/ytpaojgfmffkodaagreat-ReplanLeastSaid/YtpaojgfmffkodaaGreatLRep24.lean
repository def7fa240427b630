/- Layer 54, the law: events, small cases. -/
import Derived.Test.YtpaojgfmffkodaaGreatLRepP12
import Derived.Test.YtpaojgfmffkodaaGreatLRep14
import Derived.Test.YtpaojgfmffkodaaGreatLSch20
import Derived.Test.YtpaojgfmffkodaaGreatLRep15
import Derived.Test.YtpaojgfmffkodaaGreatLRep16
import Derived.Test.YtpaojgfmffkodaaGreatLRep10
import Derived.Test.YtpaojgfmffkodaaGreatLSch26
namespace Go.Proofs.YtpaojgfmffkodaaGreat
set_option linter.unusedVariables false
set_option linter.unusedSimpArgs false
open Go.RowKit Go.Sort
attribute [local go_sem ↓] Go.wp_at_zero Go.wp_at_succ
def encE (v : EvR) : List Value := [.int .i64 v.kind, .int .i64 v.mach, .int .i64 v.frm, .int .i64 v.till, .int .i64 v.job]
theorem encE_len (p : EvR) : (encE p).length = 5 := rfl
theorem encE_one (p : EvR) : ∀ u ∈ encE p, u.oneCell' = true := by
  intro u hu; simp [encE] at hu; rcases hu with rfl | rfl | rfl | rfl | rfl <;> rfl
abbrev IsEvs (w : World) (A : Option Addr) (c : Nat) (l : List EvR) : Prop := IsRow encE 5 w A c l
section
variable {w : World} {g off : Nat} {l : List EvR}
theorem RowAt.e0 (h : RowAt encE 5 w g off l) (i : Nat) (hi : i < l.length) : w.cell? ⟨g, off + i * 5, none⟩ = some (.int .i64 l[i].kind) := h.cells i hi 0 _ rfl
theorem RowAt.e1 (h : RowAt encE 5 w g off l) (i : Nat) (hi : i < l.length) : w.cell? ⟨g, off + i * 5 + 1, none⟩ = some (.int .i64 l[i].mach) := h.cells i hi 1 _ rfl
theorem RowAt.e2 (h : RowAt encE 5 w g off l) (i : Nat) (hi : i < l.length) : w.cell? ⟨g, off + i * 5 + 2, none⟩ = some (.int .i64 l[i].frm) := h.cells i hi 2 _ rfl
theorem RowAt.e3 (h : RowAt encE 5 w g off l) (i : Nat) (hi : i < l.length) : w.cell? ⟨g, off + i * 5 + 3, none⟩ = some (.int .i64 l[i].till) := h.cells i hi 3 _ rfl
theorem RowAt.e4 (h : RowAt encE 5 w g off l) (i : Nat) (hi : i < l.length) : w.cell? ⟨g, off + i * 5 + 4, none⟩ = some (.int .i64 l[i].job) := h.cells i hi 4 _ rfl
end
theorem infoEv : (Tryz.prog.info? 86).map (fun i => (i.zero, i.size, i.bytes)) = some (some (.agg #[.int .i64 0, .int .i64 0, .int .i64 0, .int .i64 0, .int .i64 0]), 5, 40) := by kernel_rfl
theorem rowE_at (W : World) (g : Nat) (x : EvR) (t : TypeId) (hg : W.heap.size = g) : IsRow encE 5 (W.alloc (.cells #[.int .i64 x.kind, .int .i64 x.mach, .int .i64 x.frm, .int .i64 x.till, .int .i64 x.job] t)) (some ⟨g, 0, none⟩) 1 [x] := by
  subst hg; exact isRow_lit encE_len _ _ _ _ 1 [x] rfl rfl (by simp) rfl
set_option maxRecDepth 100000 in
set_option maxHeartbeats 4000000 in
theorem events_any (A : Option Addr) (c : Nat) (l : List EvR) (w : World) (hl : IsRow encE 5 w A c l) (hll : l.length ≤ 1000000) :
    Calls Tryz.prog 15 #[.slice A l.length c] w fun e w' => ∃ A' c', e = .returned (.slice A' l.length c') ∧ Owns encE 5 w.heap.size 86 w' A' c' l ∧ SinceOf w w' := by
  have H := Lib.hid hl
  clear hl
  obtain ⟨i0, hi, hz0, hz1, hz2⟩ := info_parts infoEv
  have HI := Lib.hid (And.intro hi (And.intro hz0 (And.intro hz1 hz2)))
  clear hi hz0 hz1 hz2
  go_enter Tryz.func15, Tryz.ntmps15
  go_wp2_with fail
  go_loopg [3, 8] l.length (fun gas s3 s8 wr => ∃ (k : Nat) (A2 : Option Addr) (c2 : Nat), k ≤ l.length ∧ l.length - k ≤ gas ∧ s3 = .slice A2 (l.take k).length c2 ∧ s8 = .int .i64 k ∧ Owns encE 5 w.heap.size 86 wr A2 c2 (l.take k) ∧ SinceOf w wr)
  case atStart => exact ⟨0, none, 0, by omega, by omega, rfl, rfl, Owns.nil _ _ _ _ _, SinceOf.refl _⟩
  case round =>
    obtain ⟨k, A2, c2, hk, hgas, rfl, rfl, hown, ⟨z, rfl⟩⟩ := hrel
    by_cases hlt : k < l.length
    · have hr0 := H.out.of (w' := z.wd) ⟨z, rfl⟩
      obtain ⟨g, off, rfl, hr⟩ := hr0.at_ (by omega)
      have hO := hr.there
      have s0 := hr.e0 k hlt
      have s1 := hr.e1 k hlt
      have s2 := hr.e2 k hlt
      have s3 := hr.e3 k hlt
      have s4 := hr.e4 k hlt
      have hts := List.take_succ_eq_append_getElem hlt
      have htl : (l.take k).length = k := by rw [List.length_take]; omega
      generalize l[k] = x at *
      have HH := Lib.hid (And.intro hown (And.intro hts htl))
      generalize l.take k = m at *
      clear hown hts htl hr hr0
      go_wp2_with (at_builtin; refine wpList_append_row rfl (.tmp 12) (.tmp 14) 49 rfl encE_len (by omega) encE_one i0 _ 40 Tryz.underlying49 HI.out.1 HI.out.2.1 HI.out.2.2.1 HI.out.2.2.2 rfl (l := m) (A := A2) (c := c2) (base := w.heap.size) rfl ((HH.out.1.alloc _).alloc _) (m := [x]) rfl (rowE_at _ _ x _ (by first | rfl | simp)) (by have := HH.out.2.2; unfold maxLen; simp; omega) (by have := HH.out.2.2; simp; omega) (by have := z.size; simp; omega) ?_; intro A3 c3 w3 hown3 hgr3 hbl3)
      go_roundg (l.length - (k + 1))
      case measure => omega
      case rel =>
        refine ⟨k + 1, A3, c3, hlt, Nat.le_refl _, by rw [HH.out.2.1, List.length_append]; rfl, by go_num, by rw [HH.out.2.1]; exact hown3, ?_⟩
        exact SinceOf.grown (SinceOf.alloc (SinceOf.alloc ⟨z, rfl⟩ _) _) hgr3 (fun b hb => (HH.out.1.below b hb).1)
    · have hkl : k = l.length := by omega
      have e : l.take k = l := by rw [hkl, List.take_length]
      rw [e] at hown
      rw [e]
      have HH := Lib.hid hown
      clear hown e hkl
      go_wp2_with fail
      go_returns
      exact ⟨A2, c2, rfl, HH.out, ⟨z, rfl⟩⟩
structure CaseR where
  s : ShopR
  A : Option Addr
  c : Nat
  L : List JobR
  B : Option Addr
  d : Nat
  plan : List SlotR
  now : Int
  E : Option Addr
  ec : Nat
  evs : List EvR
abbrev caseV (x : CaseR) : Value := .agg #[.slice x.s.A x.s.cals.length x.s.c, .slice x.s.B x.s.rows.length x.s.d, .int .i64 x.s.most, .slice x.A x.L.length x.c, .slice x.B x.plan.length x.d, .int .i64 x.now, .slice x.E x.evs.length x.ec]
structure IsCase (w : World) (x : CaseR) : Prop where
  shop : IsShop w x.s
  jobs : IsJobs w x.A x.c x.L
  plan : IsSlots w x.B x.d x.plan
  evs : IsEvs w x.E x.ec x.evs
  cap : x.plan.length ≤ x.d
  len : x.plan.length < 4611686018427387904 ∧ x.evs.length < 4611686018427387904
theorem IsCase.of {w w' : World} {x : CaseR} (h : IsCase w x) (hs : SinceOf w w') : IsCase w' x := ⟨h.shop.of hs, h.jobs.of hs, h.plan.of hs, h.evs.of hs, h.cap, h.len⟩
def smallK (s : ShopR) (L : List JobR) (l : List SlotR) (now : Int) (en : Nat) : Bool := !L.any lateB && (!l.any farB && (fewP s L && (decide ((l.length : Int) ≤ 8) && (decide ((en : Int) ≤ 25) && (decide (now ≤ 20000) || decide (1000000 < now))))))
set_option maxRecDepth 100000 in
set_option maxHeartbeats 8000000 in
theorem smallCase_any (x : CaseR) (w : World) (hx : IsCase w x) :
    Gives Tryz.prog 10 #[caseV x] w (.bool (smallK x.s x.L x.plan x.now x.evs.length)) := by
  apply Gives.ret
  have FW := fun W hW => few52_any x.s x.A x.c x.L W (hx.shop.of hW) (hx.jobs.of hW)
  have hjl := hx.jobs.len
  have hll := hx.len
  have h1 := hx.jobs
  have h2 := hx.plan
  obtain ⟨s, A, c, L, B, d, l, now, E, ec, evs⟩ := x
  simp only at FW hjl hll h1 h2
  obtain ⟨res, hres⟩ : ∃ v, v = smallK s L l now evs.length := ⟨_, rfl⟩
  show Calls _ _ _ _ _
  simp only
  rw [← hres]
  unfold smallK at hres
  generalize fewP s L = q at *
  have H := Lib.hid (And.intro h1 (And.intro h2 hres))
  obtain ⟨sA, sc, cals, sB, sd, R, most⟩ := s
  obtain ⟨en, hen⟩ : ∃ en, en = evs.length := ⟨_, rfl⟩
  try simp only at FW
  show Calls Tryz.prog _ #[.agg #[.slice sA cals.length sc, .slice sB R.length sd, .int .i64 most, .slice A L.length c, .slice B l.length d, .int .i64 now, .slice E evs.length ec]] w _
  rw [← hen] at hll ⊢
  have HEN := Lib.hid hen
  clear hx h1 h2 hres hen
  go_enter Tryz.func10, Tryz.ntmps10
  go_wp2_with fail
  go_loopg [11] L.length (fun gas s11 wr => ∃ k : Nat, k ≤ L.length ∧ L.length - k ≤ gas ∧ s11 = .int .i64 k ∧ LaterOf (w.alloc (.cells #[.slice sA cals.length sc, .slice sB R.length sd, .int .i64 most, .slice A L.length c, .slice B l.length d, .int .i64 now, .slice E en ec] 32)) wr ∧ L.any lateB = (L.drop k).any lateB)
  case atStart => exact ⟨0, by omega, by omega, rfl, Lx, by rw [List.drop_zero]⟩
  case round =>
    obtain ⟨k, hk, hgas, rfl, ⟨z, rfl⟩, hany⟩ := hrel
    by_cases hlt : k < L.length
    · rw [any_drop lateB hlt] at hany
      have hj := H.out.1.of (w' := z.wd) Sx
      obtain ⟨g, off, rfl, hr⟩ := hj.row.at_ (by omega)
      have hO := hr.there
      have j0 := hr.j0 k hlt
      have j1 := hr.j1 k hlt
      have j2 := hr.j2 k hlt
      have j3 := hr.j3 k hlt
      have j4 := hr.j4 k hlt
      have j5 := hr.j5 k hlt
      have ef : lateB L[k] = (decide (20000 < L[k].rel) && decide (L[k].rel ≤ 1000000)) := rfl
      generalize L[k] = x at *
      rw [ef] at hany
      clear hr hj ef
      have hcase : (decide (20000 < x.rel) = true ∧ decide (x.rel ≤ 1000000) = true) ∨ (decide (20000 < x.rel) = true ∧ decide (x.rel ≤ 1000000) = false) ∨ decide (20000 < x.rel) = false := by
        cases decide (20000 < x.rel) <;> cases decide (x.rel ≤ 1000000) <;> simp
      rcases hcase with ⟨f1, f2⟩ | ⟨f1, f2⟩ | f1
      · rw [f1, f2] at hany
        have HA := Lib.hid hany
        clear hany
        go_wp2_with fail
        go_returns
        exact ⟨by rw [H.out.2.2, HA.out]; rfl, Lx⟩
      · rw [f1, f2] at hany
        have HA := Lib.hid hany
        clear hany
        go_wp2_with fail
        go_roundg (L.length - (k + 1))
        case measure => omega
        case rel => exact ⟨k + 1, hlt, Nat.le_refl _, by go_num, Lx, by rw [HA.out]; simp⟩
      · rw [f1] at hany
        have HA := Lib.hid hany
        clear hany
        go_wp2_with fail
        go_roundg (L.length - (k + 1))
        case measure => omega
        case rel => exact ⟨k + 1, hlt, Nat.le_refl _, by go_num, Lx, by rw [HA.out]; simp⟩
    · have hkl : k = L.length := by omega
      rw [hkl, List.drop_length] at hany
      have HL := Lib.hid (show L.any lateB = false from hany)
      clear hany hkl
      go_wp2_with fail
      go_loopg [27] l.length (fun gas s27 wr => ∃ k : Nat, k ≤ l.length ∧ l.length - k ≤ gas ∧ s27 = .int .i64 k ∧ LaterOf z.wd wr ∧ l.any farB = (l.drop k).any farB)
      case atStart => exact ⟨0, by omega, by omega, rfl, Lx, by rw [List.drop_zero]⟩
      case round =>
        obtain ⟨k2, hk2, hgas2, rfl, ⟨z2, rfl⟩, hany⟩ := hrel
        by_cases hlt2 : k2 < l.length
        · rw [any_drop farB hlt2] at hany
          have hr0 := H.out.2.1.of (w' := z2.wd) Sx
          obtain ⟨g, off, rfl, hr⟩ := hr0.at_ (by omega)
          have hO := hr.there
          have s0 := hr.s0 k2 hlt2
          have s1 := hr.s1 k2 hlt2
          have s2 := hr.s2 k2 hlt2
          have s3 := hr.s3 k2 hlt2
          obtain ⟨⟨xj, xm, xs, xe⟩, hx⟩ : ∃ x, x = l[k2] := ⟨_, rfl⟩
          rw [← hx] at hany s0 s1 s2 s3
          simp only at s0 s1 s2 s3
          have hf : farB ⟨xj, xm, xs, xe⟩ = ((decide (20000 < xs) && decide (xs ≤ 1000000)) || (decide (20000 < xe) && decide (xe ≤ 1000000))) := rfl
          have hcase : ((decide (20000 < xs) = true ∧ decide (xs ≤ 1000000) = true ∧ farB ⟨xj, xm, xs, xe⟩ = true) ∨ (decide (20000 < xs) = true ∧ decide (xs ≤ 1000000) = false ∧ decide (20000 < xe) = true ∧ decide (xe ≤ 1000000) = true ∧ farB ⟨xj, xm, xs, xe⟩ = true) ∨ (decide (20000 < xs) = false ∧ decide (20000 < xe) = true ∧ decide (xe ≤ 1000000) = true ∧ farB ⟨xj, xm, xs, xe⟩ = true)) ∨
              ((decide (20000 < xs) = true ∧ decide (xs ≤ 1000000) = false ∧ decide (20000 < xe) = true ∧ decide (xe ≤ 1000000) = false ∧ farB ⟨xj, xm, xs, xe⟩ = false) ∨ (decide (20000 < xs) = true ∧ decide (xs ≤ 1000000) = false ∧ decide (20000 < xe) = false ∧ farB ⟨xj, xm, xs, xe⟩ = false) ∨ (decide (20000 < xs) = false ∧ decide (20000 < xe) = true ∧ decide (xe ≤ 1000000) = false ∧ farB ⟨xj, xm, xs, xe⟩ = false) ∨ (decide (20000 < xs) = false ∧ decide (20000 < xe) = false ∧ farB ⟨xj, xm, xs, xe⟩ = false)) := by
            rw [hf]
            cases decide (20000 < xs) <;> cases decide (xs ≤ 1000000) <;> cases decide (20000 < xe) <;> cases decide (xe ≤ 1000000) <;> simp
          clear hf hr hr0 hx
          rcases hcase with hcase | hcase
          · have hfar : farB ⟨xj, xm, xs, xe⟩ = true := by rcases hcase with h | h | h <;> simp [h]
            rw [hfar, Bool.true_or] at hany
            have HA := Lib.hid hany
            clear hany hfar
            rcases hcase with ⟨f1, f2, -⟩ | ⟨f1, f2, f3, f4, -⟩ | ⟨f1, f2, f3, -⟩
            all_goals
              go_wp2_with fail
              go_returns
              exact ⟨by rw [H.out.2.2, HL.out, HA.out]; rfl, Lx⟩
          · have hfar : farB ⟨xj, xm, xs, xe⟩ = false := by rcases hcase with h | h | h | h <;> simp [h]
            rw [hfar, Bool.false_or] at hany
            have HA := Lib.hid hany
            clear hany hfar
            rcases hcase with ⟨f1, f2, f3, f4, -⟩ | ⟨f1, f2, f3, -⟩ | ⟨f1, f2, f3, -⟩ | ⟨f1, f2, -⟩
            all_goals
              go_wp2_with fail
              go_roundg (l.length - (k2 + 1))
              case measure => omega
              case rel => exact ⟨k2 + 1, hlt2, Nat.le_refl _, by go_num, Lx, HA.out⟩
        · have hkl : k2 = l.length := by omega
          rw [hkl, List.drop_length] at hany
          have HA := Lib.hid (show l.any farB = false from hany)
          clear hany hkl
          have hres : res = (q && (decide ((l.length : Int) ≤ 8) && (decide ((en : Int) ≤ 25) && (decide (now ≤ 20000) || decide (1000000 < now))))) := by rw [H.out.2.2, HL.out, HA.out, HEN.out]; rfl
          have HRS := Lib.hid hres
          clear hres
          cases q
          · go_wp2_with fail
            refine (FW _ Sx).calls.mono ?_
            rintro e _ ⟨rfl, x1, rfl⟩
            go_wp2_with fail
            go_returns
            exact ⟨by rw [HRS.out]; rfl, Lx⟩
          · by_cases f1 : (l.length : Int) ≤ 8
            · by_cases f2 : (en : Int) ≤ 25
              · by_cases f3 : now ≤ 20000
                · go_wp2_with fail
                  refine (FW _ Sx).calls.mono ?_
                  rintro e _ ⟨rfl, x1, rfl⟩
                  go_wp2_with fail
                  go_returns
                  exact ⟨by rw [HRS.out]; simp [f1, f2, f3], Lx⟩
                · go_wp2_with fail
                  refine (FW _ Sx).calls.mono ?_
                  rintro e _ ⟨rfl, x1, rfl⟩
                  go_wp2_with fail
                  go_returns
                  exact ⟨by rw [HRS.out]; simp [f1, f2], Lx⟩
              · go_wp2_with fail
                refine (FW _ Sx).calls.mono ?_
                rintro e _ ⟨rfl, x1, rfl⟩
                go_wp2_with fail
                go_returns
                exact ⟨by rw [HRS.out]; simp; omega, Lx⟩
            · go_wp2_with fail
              refine (FW _ Sx).calls.mono ?_
              rintro e _ ⟨rfl, x1, rfl⟩
              go_wp2_with fail
              go_returns
              exact ⟨by rw [HRS.out]; simp; omega, Lx⟩
end Go.Proofs.YtpaojgfmffkodaaGreat
/- Layer 54: the program's Apply. -/
namespace Go.Proofs.YtpaojgfmffkodaaGreat
set_option linter.unusedVariables false
set_option linter.unusedSimpArgs false
open Go.RowKit Go.Sort
attribute [local go_sem ↓] Go.wp_at_zero Go.wp_at_succ
section
variable {P : Program} {α : Type} {enc : α → List Value} {k base : Nat} {e : TypeId}
theorem step_make_owns {w : World} {ops : Array Oper} {o : Oper} {a : Act} {K : Act → World → Prop} {Q : Exit → Act → World → Prop} {E : Prop}
    (hg : o.guard = none) (l c : Operand) (t : TypeId) (hop : o.op = Op.makeSlice t l c) (hk : ∀ x, (enc x).length = k) (z0 : α) (i : TypeInfo) (z : Value) (bytes : Nat) (ht : P.underlying t = some (.slice e)) (hi : P.info? e = some i) (hz : i.zero = some z) (hsize : i.size = k) (hby : i.bytes = bytes) (hzc : z.cells.toList = enc z0) (hk0 : 0 < k)
    (n cp : Nat) (hl : a.eval l = .int .i64 (n : Int)) (hc : a.eval c = .int .i64 (cp : Int)) (hnc : n ≤ cp) (hbytes : bytes * cp ≤ 281474976710656) (h63 : cp ≤ maxLen) (hb : base ≤ w.heap.size)
    (h : ∀ cs, Owns enc k base e (w.alloc (.cells cs e)) (some ⟨w.heap.size, 0, none⟩) cp (List.replicate n z0) → K (a.put o.dst (.slice (some ⟨w.heap.size, 0, none⟩) n cp)) (w.alloc (.cells cs e))) :
    if Region.wanted o (yielded ops a.tmps) = true then Oper.wp P o a w K Q else E := by
  have hw : Region.wanted o (yielded ops a.tmps) = true := by simp [Region.wanted, hg]
  rw [if_pos hw]
  obtain ⟨cs, hrun, hown⟩ := run_make_owns (P := P) hk z0 t i z bytes ht hi hz hsize hby hzc hk0 w n cp hnc hbytes h63 hb
  unfold Oper.wp
  simp [execOp, hop, hl, hc, hrun, Result.andThen]
  exact h _ hown
end
theorem asc_long {n : Int} {ms : List Int} (h : machsB n ms = true) : ∀ i, i < ms.length → (i : Int) ≤ ms.getD i 0
  | 0, hi => by
    unfold machsB at h
    rw [List.all_eq_true] at h
    have := h 0 (by simpa using hi)
    unfold machB at this
    simp only [Bool.and_eq_true, decide_eq_true_eq] at this
    exact this.1.1
  | i + 1, hi => by
    have ih := asc_long h i (by omega)
    unfold machsB at h
    rw [List.all_eq_true] at h
    have := h (i + 1) (by simpa using hi)
    unfold machB at this
    simp only [Bool.and_eq_true, decide_eq_true_eq, Bool.not_eq_true', Bool.and_eq_false_iff, decide_eq_false_iff_not, Nat.add_sub_cancel] at this
    have h2 := this.2
    omega
theorem machs_len {n : Int} {ms : List Int} (h : machsB n ms = true) (hn : 0 ≤ n) : (ms.length : Int) ≤ n := by
  by_cases h0 : ms.length = 0
  · omega
  · have h1 := asc_long h (ms.length - 1) (by omega)
    unfold machsB at h
    rw [List.all_eq_true] at h
    have := h (ms.length - 1) (by simp; omega)
    unfold machB at this
    simp only [Bool.and_eq_true, decide_eq_true_eq] at this
    omega
structure LensS (s : ShopR) (L : List JobR) : Prop where
  cals : s.cals.length ≤ 6
  rows : s.rows.length ≤ 8
  each : ∀ x ∈ s.cals, x.S.length ≤ 1000000 ∧ x.D.length ≤ 1000000
  row : ∀ x ∈ s.rows, x.xs.length ≤ 1000000
  jobs : L.length ≤ 40
  ms : ∀ j ∈ L, j.ms.length ≤ 1000000
theorem check_lens {s : ShopR} {L : List JobR} (h : checkS s L = true) : LensS s L := by
  obtain ⟨c1, c2, c3⟩ := checkS_parts.1 h
  have hc := shop_cals c1
  have c1' := c1
  unfold shopB headB at c1
  simp only [Bool.and_eq_true, decide_eq_true_eq] at c1
  obtain ⟨⟨⟨h1, h2⟩, h3, ⟨h4, h5⟩, h6⟩, h7, h8⟩ := c1
  refine ⟨by omega, by omega, fun x hx => ?_, fun x hx => ?_, c2, fun j hj => ?_⟩
  · have g := validB_iff.1 (hc x hx)
    have := g.s20
    have := g.d20
    omega
  · unfold sizesB at h7
    rw [List.all_eq_true] at h7
    have := h7 x hx
    simp at this
    omega
  · have := c3 j hj
    unfold jobB at this
    rw [Bool.and_eq_true] at this
    have := machs_len this.1 (by omega)
    omega
def zeroSt : StR := ⟨⟨none, 0, [], none, 0, [], 0⟩, none, 0, [], none, 0, [], none, 0, [], none, 0, []⟩
theorem zeroSt_is (w : World) : IsState w zeroSt :=
  ⟨⟨⟨IsRow.nil _ _ _, fun x hx => (by cases hx), by decide⟩, ⟨IsRow.nil _ _ _, fun x hx => (by cases hx), by decide⟩⟩, ⟨IsRow.nil _ _ _, fun x hx => (by cases hx), by decide⟩, IsRow.nil _ _ _, IsRow.nil _ _ _, IsRow.nil _ _ _⟩
def laterTo (bg : List SlotR) (now : Int) (k : Nat) (L : List JobR) : List JobR := L.mapIdx fun i j => if i < k then laterJ bg now i j else j
theorem laterTo_zero (bg : List SlotR) (now : Int) (L : List JobR) : laterTo bg now 0 L = L := by
  unfold laterTo
  apply List.ext_getElem
  · simp
  · intro i h1 h2; simp
theorem laterTo_all (bg : List SlotR) (now : Int) (L : List JobR) : laterTo bg now L.length L = L.mapIdx (laterJ bg now) := by
  unfold laterTo
  apply List.ext_getElem
  · simp
  · intro i h1 h2
    simp at h1
    simp [h1]
theorem laterTo_length (bg : List SlotR) (now : Int) (k : Nat) (L : List JobR) : (laterTo bg now k L).length = L.length := by unfold laterTo; simp
theorem laterTo_at (bg : List SlotR) (now : Int) {k : Nat} {L : List JobR} (h : k < L.length) : (laterTo bg now k L)[k]'(by rw [laterTo_length]; exact h) = L[k] := by
  unfold laterTo
  simp
theorem laterTo_succ (bg : List SlotR) (now : Int) {k : Nat} {L : List JobR} (h : k < L.length) : laterTo bg now (k + 1) L = (laterTo bg now k L).set k (laterJ bg now k L[k]) := by
  unfold laterTo
  apply List.ext_getElem
  · simp
  · intro i h1 h2
    simp at h1
    rw [List.getElem_set]
    by_cases e : k = i
    · subst e; simp
    · rw [if_neg e]
      simp only [List.getElem_mapIdx]
      by_cases e2 : i < k
      · rw [if_pos e2, if_pos (by omega)]
      · rw [if_neg e2, if_neg (by omega)]
end Go.Proofs.YtpaojgfmffkodaaGreat
/- Layer 54: slices.SortFunc at pending slots; what the program's Apply writes into its state. -/
namespace Go.Proofs.YtpaojgfmffkodaaGreat
set_option linter.unusedVariables false
set_option linter.unusedSimpArgs false
open Go.RowKit Go.Sort
attribute [local go_sem ↓] Go.wp_at_zero Go.wp_at_succ
instance : Inhabited SlotR := ⟨⟨0, 0, 0, 0⟩⟩
theorem leS_of_nlt {a b : SlotR} (h : ltOf cmpS b a = false) : leS a b = true := by
  have h2 : ¬ (b.start < a.start ∨ (b.start = a.start ∧ b.job < a.job)) := by
    rw [← ltS, h]; simp
  unfold leS
  simp only [Bool.or_eq_true, Bool.and_eq_true, decide_eq_true_eq, beq_iff_eq]
  omega
theorem cmpLaysS (blk off size : Nat) (w : World) : CmpLays Tryz.prog 38 #[] encS 4 cmpS blk off size w := by
  intro m os dk _ x y
  refine (applyCmp_any x y _ (.bool true)).calls.mono ?_
  rintro e _ ⟨rfl, z, rfl⟩
  exact ⟨rfl, grow_of_later z⟩
theorem sortSlots_any (g off c : Nat) (l : List SlotR) (w : World) (hL : Live encS 4 w g off l) (hn : l.length < 4611686018427387904) (hnd : (l.map (·.job)).Nodup) :
    Calls Tryz.prog 37 #[.slice (some ⟨g, off, none⟩) l.length c, .func (.func 38) #[] #[]] w fun e w' => e = .returned (.tuple #[]) ∧ Live encS 4 w' g off (sortS l) ∧ w.grownBy w' (some g) := by
  have eg : ∀ args w, (callFunc 38 args).run Tryz.prog w = .ok (.enter 38 args) w := Go.Proofs.enters_of Tryz.func38 (by kernel_rfl) rfl
  have hg : g < w.heap.size := hL.row.there.elim fun h => h.lt
  have hcon := AnyQ.slices_SortFunc Tryz.sortSlots 4 Tryz.isAgg76 Tryz.sizeOf76 encS encS_len encS_one cmpS swoS 38 #[] g off c l.toArray w eg (cmpLaysS g off l.toArray.size w) (hL.holds encS_len (by omega)) hg (by simpa using hn)
  change Calls Tryz.prog 37 _ _ _ at hcon
  simp only [List.size_toArray] at hcon
  refine hcon.mono ?_
  rintro e w' ⟨rfl, d', n, os, hp, hs, rfl⟩
  obtain ⟨hsz, -, hperm⟩ := hp
  have hsz' : d'.size = l.length := by simpa using hsz
  have hm : d'.toList = sortS l := by
    refine sortS_unique hnd ?_ ?_
    · have h1 : d'.extract 0 l.length = d' := by rw [← hsz', Array.extract_size]
      have h2 : l.toArray.extract 0 l.length = l.toArray := by simp
      rw [h1, h2] at hperm
      exact hperm
    · rw [List.pairwise_iff_getElem]
      intro i j hi hj hij
      have := hs i j (Nat.zero_le _) hij (by simpa [hsz'] using hj)
      have hi' : i < d'.size := by simpa using hi
      have hj' : j < d'.size := by simpa using hj
      simp only [getElem!_pos d' i hi', getElem!_pos d' j hj'] at this
      simp only [Array.getElem_toList]
      exact leS_of_nlt this
  rw [← hm]
  refine ⟨rfl, ?_, sortWorld_grown encS 4 w g off n _ os⟩
  refine live_of_holds encS_len (by omega) ?_ ?_
  · have := (sortWorld_grown encS 4 w g off n d' os).size; exact Nat.lt_of_lt_of_le hg this
  · have h1 := holdsK_putRowK encS 4 (Sort.ahead w n) g off l.toArray d' (holdsK_ahead encS 4 w n g off _ (hL.holds encS_len (by omega))) (by simpa using hsz)
    have h2 := holdsK_grow encS 4 _ os g off d' (by simpa [putRowK, putRow, mapBlock, Sort.ahead] using hg) h1
    show HoldsK encS 4 _ g off d'.toList.toArray
    rw [Array.toArray_toList]
    exact h2
theorem sortSlotsOwn_any (base : Nat) (A : Option Addr) (c : Nat) (l : List SlotR) (w : World) (h : Owns encS 4 base 76 w A c l) (hn : l.length < 4611686018427387904) (hnd : (l.map (·.job)).Nodup) :
    Calls Tryz.prog 37 #[.slice A l.length c, .func (.func 38) #[] #[]] w fun e w' => e = .returned (.tuple #[]) ∧ IsSlots w' A c (sortS l) ∧ w.grownBy w' (blockOf A) := by
  cases l with
  | nil =>
    have := AnyF.slices_SortFunc_none Tryz.sortSlots A c (.func (.func 38) #[] #[]) w
    change Calls Tryz.prog 37 _ _ _ at this
    refine this.mono ?_
    rintro e w' ⟨rfl, rfl⟩
    exact ⟨rfl, h.isRow encS_len, World.grownBy.refl _ _⟩
  | cons x r =>
    obtain ⟨g, rfl, hg, hL⟩ := Owns.live encS_len h (by simp)
    refine (sortSlots_any g 0 c (x :: r) w hL hn hnd).mono ?_
    rintro e w' ⟨rfl, h3, h4⟩
    exact ⟨rfl, h3.isRow, h4⟩
structure ApAt (w : World) (b0 ct g : Nat) (now : Int) (x : StR) : Prop where
  ch : ChAt w b0 g now x
  ctb : b0 ≤ ct
  cell : w.heap[ct]? = some (Obj.cells #[.pointer (some ⟨g, 0, none⟩)] 89 (0, 0))
variable {w : World} {b0 ct g : Nat} {now : Int} {x : StR}
theorem ApAt.c (h : ApAt w b0 ct g now x) : w.cell? ⟨ct, 0, none⟩ = some (.pointer (some ⟨g, 0, none⟩)) := cell_of h.cell rfl
theorem ApAt.old (h : ApAt w b0 ct g now x) : Nonempty (Old w ct) := ⟨⟨heap_lt h.cell⟩⟩
theorem ApAt.of {w' : World} (h : ApAt w b0 ct g now x) (hs : SinceOf w w') : ApAt w' b0 ct g now x := ⟨h.ch.of hs, h.ctb, SameBut.since (es := []) hs _ _ _ _ (by simp) h.cell⟩
theorem ApAt.made {V : World} {b0 ct g : Nat} {now : Int} {x : StR} {o : Value} (h : ChAt V b0 g now x) (hb : b0 ≤ ct) (hc : V.heap[ct]? = some (Obj.cells #[o] 89 (0, 0))) : ApAt (V.setCell ⟨ct, 0, none⟩ (.pointer (some ⟨g, 0, none⟩))) b0 ct g now x :=
  ⟨h.sameBut (SameBut.set (es := [89]) ⟨_, _, _, List.mem_singleton.2 rfl, hc⟩) (by simp) (by simp) (by simp) (by simp) (by simp) (by simp) (by simp) (by simp), hb, set_block hc _⟩
theorem ch_begun {V : World} {b0 g : Nat} {now : Int} {s : ShopR} {n : Nat} {m : Option Addr} (hb : b0 ≤ g) (hc : V.heap[g]? = some (Obj.cells #[.slice s.A s.cals.length s.c, .slice s.B s.rows.length s.d, .int .i64 s.most, .slice none 0 0, .slice none 0 0, .slice none 0 0, .slice m n n, .int .i64 now] 92 (0, 0)))
    (h1 : OwnCals b0 V s.A s.c s.cals) (h2 : OwnRows b0 V s.B s.d s.rows) (h3 : Owns encB 1 b0 4 V m n (List.replicate n false)) : ChAt V b0 g now ⟨s, none, 0, [], none, 0, [], none, 0, [], m, n, List.replicate n false⟩ :=
  ⟨hb, by simpa using hc, h1, h2, Owns.nil _ _ _ _ _, fun x hx => (by cases hx), Owns.nil _ _ _ _ _, Owns.nil _ _ _ _ _, h3, fun b hb2 e => (by cases hb2)⟩
theorem heapAt {w w' : World} {g : Nat} {cur : Array Value} {e : TypeId} (h : w.heap[g]? = some (Obj.cells cur e (0, 0))) (hs : SinceOf w w') : w'.heap[g]? = some (Obj.cells cur e (0, 0)) := SameBut.since (es := []) hs _ _ _ _ (by simp) h
theorem heapMade {W w' : World} {n : Nat} {cur : Array Value} {e : TypeId} (hs : SinceOf (W.alloc (.cells cur e)) w') (h : W.heap.size = n) : w'.heap[n]? = some (Obj.cells cur e (0, 0)) := heapAt (alloc_at _ _ _ h) hs
theorem apLeafS {z V : World} {b0 ct g n : Nat} {m : Option Addr} {o : Value} {now : Int} {s s0 : ShopR} (h9 : SinceOf z (V.setCell ⟨ct, 0, none⟩ (.pointer (some ⟨g, 0, none⟩)))) (h7 : V.heap[ct]? = some (Obj.cells #[o] 89 (0, 0))) (h2 : V.heap[g]? = some (Obj.cells #[.slice s.A s.cals.length s.c, .slice s.B s.rows.length s.d, .int .i64 s.most, .slice none 0 0, .slice none 0 0, .slice none 0 0, .slice m n n, .int .i64 now] 92 (0, 0))) (h5 : Owns encB 1 b0 4 V m n (List.replicate n false)) (h3 : OwnCals b0 V s.A s.c s.cals) (h4 : OwnRows b0 V s.B s.d s.rows) (h1 : b0 ≤ g) (h6 : b0 ≤ ct) (h8 : b0 ≤ V.heap.size) (hers : erS s = erS s0) :
    ∃ (ct' g' : Nat) (x : StR), Value.pointer (some ⟨ct, 0, none⟩) = .pointer (some ⟨ct', 0, none⟩) ∧ ApAt (V.setCell ⟨ct, 0, none⟩ (.pointer (some ⟨g, 0, none⟩))) b0 ct' g' now x ∧ b0 ≤ ((V.setCell ⟨ct, 0, none⟩ (.pointer (some ⟨g, 0, none⟩)))).heap.size ∧ erS x.s = erS s0 ∧ x.L = [] ∧ x.bg = [] ∧ x.pd = [] ∧ x.dr = List.replicate n false ∧ SinceOf z (V.setCell ⟨ct, 0, none⟩ (.pointer (some ⟨g, 0, none⟩))) :=
  ⟨ct, g, _, rfl, ApAt.made (ch_begun h1 h2 h3 h4 h5) h6 h7, by simpa using h8, hers, rfl, rfl, rfl, rfl, h9⟩
theorem runV_cons {now : Int} {x : StP} {v : EvR} {r : List EvR} : runV now x (v :: r) = if (stepV x now v).1 = 0 then runV now (stepV x now v).2 r else ((stepV x now v).1, (stepV x now v).2) := rfl
structure LensP (x : StP) (n : Nat) : Prop where
  cals : x.s.cals.length ≤ 6
  L : x.L.length ≤ n
  bg : x.bg.length ≤ 1000000
  dr : x.dr.length = x.L.length
theorem LensP.step {x : StP} {n : Nat} {now : Int} {v : EvR} (h : LensP x n) : LensP (stepV x now v).2 (n + 1) := by
  obtain ⟨h1, h2, h3, h4⟩ := h
  unfold stepV shutV dropV againV setCal
  (repeat' split) <;> refine ⟨?_, ?_, ?_, ?_⟩ <;> (try simp) <;> omega
theorem ApAt.setRel (h : ApAt w b0 ct g now x) {q : Nat} (hA : x.A = some ⟨q, 0, none⟩) {i : Nat} (hi : i < x.L.length) (v : Int) :
    ApAt (w.setCell ⟨q, i * 6 + 3, none⟩ (.int .i64 v)) b0 ct g now ⟨x.s, x.A, x.c, x.L.set i ⟨x.L[i].A, x.L[i].c, x.L[i].ms, x.L[i].dur, x.L[i].cls, v, x.L[i].due, x.L[i].ord⟩, x.gA, x.gc, x.bg, x.pA, x.pc, x.pd, x.dA, x.dc, x.dr⟩ := by
  obtain ⟨cur, hq⟩ := h.ch.jobs.typed q (by rw [hA]; rfl)
  exact ⟨h.ch.setRel hA hi v, h.ctb, SameBut.set (es := [85]) ⟨_, _, _, List.mem_singleton.2 rfl, hq⟩ ct _ _ _ (by simp) h.cell⟩
theorem ApAt.setEnd (h : ApAt w b0 ct g now x) {q : Nat} (hA : x.gA = some ⟨q, 0, none⟩) {i : Nat} (hi : i < x.bg.length) (v : Int) :
    ApAt (w.setCell ⟨q, i * 4 + 3, none⟩ (.int .i64 v)) b0 ct g now ⟨x.s, x.A, x.c, x.L, x.gA, x.gc, x.bg.set i ⟨x.bg[i].job, x.bg[i].mach, x.bg[i].start, v⟩, x.pA, x.pc, x.pd, x.dA, x.dc, x.dr⟩ := by
  obtain ⟨cur, hq⟩ := h.ch.bg.typed q (by rw [hA]; rfl)
  exact ⟨h.ch.setEnd hA hi v, h.ctb, SameBut.set (es := [76]) ⟨_, _, _, List.mem_singleton.2 rfl, hq⟩ ct _ _ _ (by simp) h.cell⟩
theorem laterTo_skip {bg : List SlotR} {now : Int} {k : Nat} {L : List JobR} (h : k < L.length) (hb : begunJ bg k = true) : laterTo bg now (k + 1) L = laterTo bg now k L := by
  rw [laterTo_succ bg now h]
  unfold laterJ
  rw [if_pos hb]
  apply List.ext_getElem
  · simp
  · intro i h1 h2
    rw [List.getElem_set]
    by_cases e : k = i
    · subst e
      rw [if_pos rfl, laterTo_at bg now h]
    · rw [if_neg e]
theorem ApAt.release {s : ShopR} {q c gc pc dc k : Nat} {L : List JobR} {gA pA dA : Option Addr} {bg pd : List SlotR} {dr : List Bool} (h : ApAt w b0 ct g now ⟨s, some ⟨q, 0, none⟩, c, laterTo bg now k L, gA, gc, bg, pA, pc, pd, dA, dc, dr⟩) (hk : k < L.length) (hb : begunJ bg k = false) :
    ApAt (w.setCell ⟨q, k * 6 + 3, none⟩ (.int .i64 (imax L[k].rel now))) b0 ct g now ⟨s, some ⟨q, 0, none⟩, c, laterTo bg now (k + 1) L, gA, gc, bg, pA, pc, pd, dA, dc, dr⟩ := by
  have h1 := h.setRel rfl (i := k) (by rw [laterTo_length]; exact hk) (imax L[k].rel now)
  simp only [laterTo_at bg now hk] at h1
  rw [laterTo_succ bg now hk]
  unfold laterJ
  rw [hb, if_neg (by decide)]
  exact h1
theorem ApAt.ended {s : ShopR} {q c gc pc dc : Nat} {L : List JobR} {pA dA A : Option Addr} {pd done rest : List SlotR} {y : SlotR} {dr : List Bool} (h : ApAt w b0 ct g now ⟨s, A, c, L, some ⟨q, 0, none⟩, gc, done ++ y :: rest, pA, pc, pd, dA, dc, dr⟩) (v : Int) :
    ApAt (w.setCell ⟨q, done.length * 4 + 3, none⟩ (.int .i64 v)) b0 ct g now ⟨s, A, c, L, some ⟨q, 0, none⟩, gc, (done ++ [⟨y.job, y.mach, y.start, v⟩]) ++ rest, pA, pc, pd, dA, dc, dr⟩ := by
  have h1 := h.setEnd rfl (i := done.length) (by simp) v
  simpa using h1
theorem ChAt.finish (h : ChAt w b0 g now x) {m : Nat} (hm : m < x.s.cals.length) (t k : Int) :
    Gives Tryz.prog 34 #[CalV x.s.cals[m].P x.s.cals[m].A x.s.cals[m].S.length x.s.cals[m].c x.s.cals[m].B x.s.cals[m].D.length x.s.cals[m].d, .int .i64 t, .int .i64 k] w (pairV (finishAt x.s m t k)) := by
  have hall := h.cals.all _ (List.getElem_mem hm)
  have hcal : IsCal w x.s.cals[m].P x.s.cals[m].A x.s.cals[m].S.length x.s.cals[m].c x.s.cals[m].B x.s.cals[m].D.length x.s.cals[m].d x.s.cals[m].S x.s.cals[m].D := ⟨rfl, rfl, hall.1.isRow encV_len, hall.2.1.isRow encV_len, by have := hall.2.2.1; omega, by have := hall.2.2.2; omega⟩
  have := finish_any t k hcal
  unfold finishAt
  rw [calAt_at hm]
  exact this
theorem endsV_er (s : ShopR) (L : List JobR) : ∀ l, endsV (erS s) (erL L) l = endsV s L l
  | [] => rfl
  | y :: r => by
    unfold endsV
    rw [finishAt_er, dur_er, endsV_er s L r]
theorem later_er (bg : List SlotR) (now : Int) (L : List JobR) : erL (L.mapIdx (laterJ bg now)) = (erL L).mapIdx (laterJ bg now) := by
  unfold erL
  apply List.ext_getElem
  · simp
  · intro i h1 h2
    simp only [List.getElem_map, List.getElem_mapIdx]
    unfold laterJ erJ
    split <;> rfl
theorem endsV_cons_some {s : ShopR} {L : List JobR} {y : SlotR} {r : List SlotR} {a : Int} (h : finishAt s y.mach y.start (jobAt L y.job).dur = (a, 0)) : endsV s L (y :: r) = (endsV s L r).map fun t => ⟨y.job, y.mach, y.start, a⟩ :: t := by
  rw [endsV, h, if_pos rfl]
theorem endsV_cons_none {s : ShopR} {L : List JobR} {y : SlotR} {r : List SlotR} (h : (finishAt s y.mach y.start (jobAt L y.job).dur).2 ≠ 0) : endsV s L (y :: r) = none := by
  rw [endsV, if_neg h]
theorem after_events {s : ShopR} {L : List JobR} {plan : List SlotR} {now : Int} {evs : List EvR} {x3 : StR} (hc : checkS s L = true) (hg : GoodS s L plan) (hr : runV now (startV s L plan now) evs = (0, erSt x3)) :
    (∀ y ∈ x3.bg, (0 ≤ y.job ∧ y.job < x3.L.length) ∧ 0 ≤ y.mach ∧ y.mach < x3.s.cals.length) ∧ (∀ y ∈ x3.pd, 0 ≤ y.job ∧ y.job < x3.dr.length) ∧ (x3.pd.map (·.job)).Nodup ∧ x3.pd.length ≤ plan.length := by
  have hbg : ∀ y ∈ (startV s L plan now).bg, 0 ≤ y.job ∧ y.job < (startV s L plan now).L.length := by
    intro y hy
    have hy1 : y ∈ plan := (List.mem_filter.1 hy).1
    have := (good_stop hg y hy1).1
    show 0 ≤ y.job ∧ y.job < (erL L).length
    rw [erL_length]
    exact this
  have inv := run_inv hbg evs _ (start_inv s L plan now hc) (by rw [hr])
  rw [hr] at inv
  have i1 : x3.bg = plan.filter (fun x => decide (x.start < now)) := inv.bg
  have i2 : x3.pd = plan.filter (fun x => !decide (x.start < now)) := inv.pd
  have i3 : (erL L).length ≤ (erL x3.L).length := inv.le
  have i4 : (erS x3.s).cals.length = (erS s).cals.length := inv.n
  have i5 : x3.dr.length = (erL x3.L).length := inv.dr
  simp only [erL_length, erS, List.length_map] at i3 i4 i5
  refine ⟨fun y hy => ?_, fun y hy => ?_, ?_, ?_⟩
  · rw [i1] at hy
    have hn := nameB_iff.1 (slot_parts.1 (hg.1 y (List.mem_filter.1 hy).1)).1
    omega
  · rw [i2] at hy
    have hn := nameB_iff.1 (slot_parts.1 (hg.1 y (List.mem_filter.1 hy).1)).1
    omega
  · rw [i2]
    exact (List.filter_sublist.map _).nodup (good_jobs hg)
  · rw [i2]; exact List.length_filter_le _ _
end Go.Proofs.YtpaojgfmffkodaaGreat
/- Layer 54: what the program's Apply does at its end: dropped slots go, the rest is sorted, the state is handed out. -/
namespace Go.Proofs.YtpaojgfmffkodaaGreat
set_option linter.unusedVariables false
set_option linter.unusedSimpArgs false
open Go.RowKit Go.Sort
attribute [local go_sem ↓] Go.wp_at_zero Go.wp_at_succ
section
variable {α : Type} {enc : α → List Value} {k base : Nat} {e : TypeId} {w w' : World} {A : Option Addr} {c : Nat} {l : List α}
theorem Owns.sameBlock (h : Owns enc k base e w A c l) (hb : ∀ b, blockOf A = some b → w'.heap[b]? = w.heap[b]?) : Owns enc k base e w' A c l := by
  obtain ⟨h1, h2⟩ := h
  refine ⟨h1, ?_⟩
  rcases h2 with h2 | ⟨g, cap, cur, hv, hbg, hg, r⟩
  · exact .inl h2
  · refine .inr ⟨g, cap, cur, hv, hbg, ?_, r⟩
    rw [hb g (by injection hv with h3 _ _; rw [h3]; rfl)]
    exact hg
theorem IsRow.sameBlock (h : IsRow enc k w A c l) (hb : ∀ b, blockOf A = some b → w'.heap[b]? = w.heap[b]?) (hs : w.heap.size ≤ w'.heap.size) : IsRow enc k w' A c l := by
  refine ⟨h.1, ?_⟩
  rcases h.2 with h2 | ⟨g, off, rfl, h2⟩
  · exact .inl h2
  · have e := hb g rfl
    refine .inr ⟨g, off, rfl, fun i hi j u hu => ?_, ⟨⟨Nat.lt_of_lt_of_le (h2.there.elim fun t => t.lt) hs⟩⟩⟩
    have := h2.cells i hi j u hu
    unfold World.cell? at this ⊢
    rw [show w'.heap[(⟨g, off + i * k + j, none⟩ : Addr).block]? = w.heap[g]? from e]
    exact this
end
variable {w w' : World} {b0 ct g : Nat} {now : Int} {x : StR}
theorem ChAt.pending (h : ChAt w b0 g now x) {l : List SlotR} (SB : SameBut [76] w w') (ho : Owns encS 4 b0 76 w' x.pA x.pc l) (hbl : ∀ b, blockOf x.pA ≠ some b → b < w.heap.size → w'.heap[b]? = w.heap[b]?) :
    ChAt (w'.setCell ⟨g, 5, none⟩ (.slice x.pA l.length x.pc)) b0 g now ⟨x.s, x.A, x.c, x.L, x.gA, x.gc, x.bg, x.pA, x.pc, l, x.dA, x.dc, x.dr⟩ := by
  have hc' := SB g _ _ _ (by simp) h.cell
  have SC : SameBut [92] w' (w'.setCell ⟨g, 5, none⟩ (.slice x.pA l.length x.pc)) := SameBut.set ⟨_, _, _, List.mem_singleton.2 rfl, hc'⟩
  have hbg : Owns encS 4 b0 76 w' x.gA x.gc x.bg := h.bg.sameBlock (fun b hb => hbl b (h.apart b hb) (h.bg.below b hb).2)
  exact ⟨h.base, set_block hc' _, (h.cals.sameBut SB (by simp) (by simp)).sameBut SC (by simp) (by simp), (h.rows.sameBut SB (by simp) (by simp)).sameBut SC (by simp) (by simp), (h.jobs.sameBut (by simp) SB).sameBut (by simp) SC, fun i hi => ⟨((h.jobsI i hi).1.sameBut (by simp) SB).sameBut (by simp) SC, (h.jobsI i hi).2⟩, hbg.sameBut (by simp) SC, ho.sameBut (by simp) SC, (h.dr.sameBut (by simp) SB).sameBut (by simp) SC, h.apart⟩
theorem ApAt.pending (h : ApAt w b0 ct g now x) {l : List SlotR} (SB : SameBut [76] w w') (ho : Owns encS 4 b0 76 w' x.pA x.pc l) (hbl : ∀ b, blockOf x.pA ≠ some b → b < w.heap.size → w'.heap[b]? = w.heap[b]?) :
    ApAt (w'.setCell ⟨g, 5, none⟩ (.slice x.pA l.length x.pc)) b0 ct g now ⟨x.s, x.A, x.c, x.L, x.gA, x.gc, x.bg, x.pA, x.pc, l, x.dA, x.dc, x.dr⟩ := by
  have hc' := SB g _ _ _ (by simp) h.ch.cell
  have SC : SameBut [92] w' (w'.setCell ⟨g, 5, none⟩ (.slice x.pA l.length x.pc)) := SameBut.set ⟨_, _, _, List.mem_singleton.2 rfl, hc'⟩
  exact ⟨h.ch.pending SB ho hbl, h.ctb, SC ct _ _ _ (by simp) (SB ct _ _ _ (by simp) h.cell)⟩
theorem ChAt.final (h : ChAt w b0 g now x) {l : List SlotR} (hgr : w.grownBy w' (blockOf x.pA)) (hs : IsSlots w' x.pA x.pc l) (hll : l.length < 4611686018427387904) {wf : World} (hf : ∀ b, b0 ≤ b → b < w'.heap.size → wf.heap[b]? = w'.heap[b]?) (hz : w'.heap.size ≤ wf.heap.size) (hc : x.s.cals.length < 4611686018427387904) (hr : x.s.rows.length < 4611686018427387904) (hL : x.L.length < 4611686018427387904) :
    IsState wf ⟨x.s, x.A, x.c, x.L, x.gA, x.gc, x.bg, x.pA, x.pc, l, x.dA, x.dc, x.dr⟩ := by
  have SB := SameBut.grown (es := [76]) hgr (fun g5 hg5 => by obtain ⟨cur, hc⟩ := h.pd.typed g5 hg5; exact ⟨cur, _, _, List.mem_singleton.2 rfl, hc⟩)
  have mv : ∀ {α : Type} {enc : α → List Value} {k : Nat} {e : TypeId} {A : Option Addr} {c : Nat} {l : List α}, Owns enc k b0 e w' A c l → Owns enc k b0 e wf A c l := fun ho => ho.sameBlock (fun b hb => hf b (ho.below b hb).1 (ho.below b hb).2)
  have h1 := h.cals.sameBut SB (by simp) (by simp)
  have h2 := h.rows.sameBut SB (by simp) (by simp)
  have h3 := h.jobs.sameBut (by simp) SB
  have h4 : Owns encS 4 b0 76 w' x.gA x.gc x.bg := h.bg.kept hgr (by
    cases e : blockOf x.gA with
    | none => exact .inl rfl
    | some b => exact .inr fun e2 => h.apart b e e2.symm)
  have h5 := h.dr.sameBut (by simp) SB
  refine ⟨⟨⟨(mv h1.row).isRow encC_len, fun y hy => ⟨rfl, rfl, (mv (h1.all y hy).1).isRow encV_len, (mv (h1.all y hy).2.1).isRow encV_len, by have := (h1.all y hy).2.2.1; omega, by have := (h1.all y hy).2.2.2; omega⟩, hc⟩, ⟨(mv h2.row).isRow encR_len, fun y hy => ⟨(mv (h2.all y hy).1).isRow encN_len, by have := (h2.all y hy).2; omega⟩, hr⟩⟩, ⟨(mv h3).isRow encJ_len, fun j hj => ⟨(mv ((h.jobsI j hj).1.sameBut (by simp) SB)).isRow encN_len, by have := (h.jobsI j hj).2; omega⟩, hL⟩, (mv h4).isRow encS_len, ?_, (mv h5).isRow encB_len⟩
  exact hs.sameBlock (fun b hb => hf b (h.pd.below b hb).1 (Nat.lt_of_lt_of_le (h.pd.below b hb).2 hgr.size)) hz
def StFrom (n : Nat) (w : World) (x : StR) : Prop := ∀ W : World, (∀ b, n ≤ b → b < w.heap.size → W.heap[b]? = w.heap[b]?) → w.heap.size ≤ W.heap.size → IsState W x
theorem StFrom.state {n : Nat} {w : World} {x : StR} (h : StFrom n w x) : IsState w x := h w (fun _ _ _ => rfl) (Nat.le_refl _)
theorem zeroSt_from (n : Nat) (w : World) : StFrom n w zeroSt := fun W _ _ => zeroSt_is W
theorem StFrom.change {n : Nat} {w w' : World} {x : StR} (h : StFrom n w x) (hb : ∀ b, n ≤ b → b < w.heap.size → w'.heap[b]? = w.heap[b]?) (hs : w.heap.size ≤ w'.heap.size) : StFrom n w' x := fun W hW hWs =>
  h W (fun b h1 h2 => (hW b h1 (Nat.lt_of_lt_of_le h2 hs)).trans (hb b h1 h2)) (Nat.le_trans hs hWs)
theorem StFrom.of {n : Nat} {w w' : World} {x : StR} (h : StFrom n w x) (hs : SinceOf w w') : StFrom n w' x := h.change (fun b _ hb => hs.below.block b hb) hs.size
theorem StFrom.le {n m : Nat} {w : World} {x : StR} (h : StFrom n w x) (hm : m ≤ n) : StFrom m w x := fun W hW hWs => h W (fun b h1 h2 => hW b (Nat.le_trans hm h1) h2) hWs
set_option maxRecDepth 100000 in
set_option maxHeartbeats 4000000 in
theorem dropped_any (ct g : Nat) (dA : Option Addr) (dc : Nat) (dr : List Bool) (y : SlotR) (w : World) [Nonempty (Old w ct)] [Nonempty (Old w g)] (hct : w.cell? ⟨ct, 0, none⟩ = some (.pointer (some ⟨g, 0, none⟩))) (c6 : w.cell? ⟨g, 6, none⟩ = some (.slice dA dr.length dc)) (hr : IsRow encB 1 w dA dc dr) (hy : 0 ≤ y.job ∧ y.job < dr.length) (hl : dr.length < 4611686018427387904) :
    Gives Tryz.prog 36 #[slotV y, .pointer (some ⟨ct, 0, none⟩)] w (.bool (dr.getD y.job.toNat false)) := by
  apply Gives.ret
  obtain ⟨yj, ym, ys, ye⟩ := y
  simp only at hy ⊢
  obtain ⟨j, rfl⟩ : ∃ j : Nat, yj = j := ⟨yj.toNat, by omega⟩
  have hj : j < dr.length := by omega
  obtain ⟨q, o, rfl, hq⟩ := hr.at_ (by omega)
  have hO := hq.there
  have d0 := hq.cells j hj 0 (.bool dr[j]) rfl
  have hv : dr.getD ((j : Int)).toNat false = dr[j] := by rw [Int.toNat_natCast, List.getD_eq_getElem?_getD, List.getElem?_eq_getElem hj, Option.getD_some]
  rw [hv]
  simp only [Nat.mul_one, Nat.add_zero] at d0
  generalize dr[j] = b at *
  clear hq hr hv
  show Calls _ _ _ _ _
  go_enter Tryz.func36, Tryz.ntmps36
  go_wp2_with fail
  refine region_later (by kernel_rfl) (by kernel_rfl) ?_
  repeat (go_big_quiet_step (fail))
  refine wpQuiet_nil ?_
  rintro _ ⟨zq, rfl⟩
  go_wp2_with fail
  go_returns
  exact ⟨rfl, Lx⟩
theorem last_none {s : ShopR} {A : Option Addr} {c : Nat} {L : List JobR} {gA : Option Addr} {gc : Nat} {bg : List SlotR} {pA : Option Addr} {pc : Nat} {pd : List SlotR} {dA : Option Addr} {dc : Nat} {dr : List Bool} {now : Int} (h : endsV s (L.mapIdx (laterJ bg now)) bg = none) : lastV (erSt ⟨s, A, c, L, gA, gc, bg, pA, pc, pd, dA, dc, dr⟩) now = (8, noSt) := by
  unfold lastV erSt
  simp only
  rw [← later_er, endsV_er, h]
theorem last_some {s : ShopR} {A : Option Addr} {c : Nat} {L : List JobR} {gA : Option Addr} {gc : Nat} {bg : List SlotR} {pA : Option Addr} {pc : Nat} {pd : List SlotR} {dA : Option Addr} {dc : Nat} {dr : List Bool} {now : Int} {b : List SlotR} (h : endsV s (L.mapIdx (laterJ bg now)) bg = some b) : lastV (erSt ⟨s, A, c, L, gA, gc, bg, pA, pc, pd, dA, dc, dr⟩) now = (0, erSt ⟨s, A, c, L.mapIdx (laterJ bg now), gA, gc, b, pA, pc, sortS (pd.filter fun y => !dr.getD y.job.toNat false), dA, dc, dr⟩) := by
  unfold lastV erSt
  simp only
  rw [← later_er, endsV_er, h]
theorem set7_ne {w : World} {g b : Nat} {u0 u1 u2 u3 u4 u5 u6 : Value} (h : g ≠ b) : (((((((w.setCell ⟨g, 0, none⟩ u0).setCell ⟨g, 1, none⟩ u1).setCell ⟨g, 2, none⟩ u2).setCell ⟨g, 3, none⟩ u3).setCell ⟨g, 4, none⟩ u4).setCell ⟨g, 5, none⟩ u5).setCell ⟨g, 6, none⟩ u6).heap[b]? = w.heap[b]? :=
  setCells_other g [u0, u1, u2, u3, u4, u5, u6] 0 w b h
theorem set7_at {w : World} {g : Nat} {a0 a1 a2 a3 a4 a5 a6 u0 u1 u2 u3 u4 u5 u6 : Value} {e : TypeId} (h : w.heap[g]? = some (Obj.cells #[a0, a1, a2, a3, a4, a5, a6] e (0, 0))) : (((((((w.setCell ⟨g, 0, none⟩ u0).setCell ⟨g, 1, none⟩ u1).setCell ⟨g, 2, none⟩ u2).setCell ⟨g, 3, none⟩ u3).setCell ⟨g, 4, none⟩ u4).setCell ⟨g, 5, none⟩ u5).setCell ⟨g, 6, none⟩ u6).heap[g]? = some (Obj.cells #[u0, u1, u2, u3, u4, u5, u6] e (0, 0)) := by
  have k1 := set_block (i := 0) h u0
  have k2 := set_block (i := 1) k1 u1
  have k3 := set_block (i := 2) k2 u2
  have k4 := set_block (i := 3) k3 u3
  have k5 := set_block (i := 4) k4 u4
  have k6 := set_block (i := 5) k5 u5
  have k7 := set_block (i := 6) k6 u6
  simp only [List.setIfInBounds_toArray, List.set_cons_zero, List.set_cons_succ] at k7
  exact k7
theorem set7_size {w : World} {g : Nat} {u0 u1 u2 u3 u4 u5 u6 : Value} : w.heap.size ≤ (((((((w.setCell ⟨g, 0, none⟩ u0).setCell ⟨g, 1, none⟩ u1).setCell ⟨g, 2, none⟩ u2).setCell ⟨g, 3, none⟩ u3).setCell ⟨g, 4, none⟩ u4).setCell ⟨g, 5, none⟩ u5).setCell ⟨g, 6, none⟩ u6).heap.size := by simp
def st7 (x : StR) : Array Value := #[.slice x.s.A x.s.cals.length x.s.c, .slice x.s.B x.s.rows.length x.s.d, .int .i64 x.s.most, .slice x.A x.L.length x.c, .slice x.gA x.bg.length x.gc, .slice x.pA x.pd.length x.pc, .slice x.dA x.dr.length x.dc]
theorem st_second {W5 w5 : World} {n0 : Nat} {y : StR} {zc : Array Value} {e : TypeId} (hz : zc.size = 7) (hc : w5.heap[n0]? = some (Obj.cells zc e (0, 0))) (hf : StFrom W5.heap.size w5 y) (hn : n0 < W5.heap.size) :
    (((((((w5.setCell ⟨n0, 0, none⟩ (.slice y.s.A y.s.cals.length y.s.c)).setCell ⟨n0, 1, none⟩ (.slice y.s.B y.s.rows.length y.s.d)).setCell ⟨n0, 2, none⟩ (.int .i64 y.s.most)).setCell ⟨n0, 3, none⟩ (.slice y.A y.L.length y.c)).setCell ⟨n0, 4, none⟩ (.slice y.gA y.bg.length y.gc)).setCell ⟨n0, 5, none⟩ (.slice y.pA y.pd.length y.pc)).setCell ⟨n0, 6, none⟩ (.slice y.dA y.dr.length y.dc)).heap[n0]? = some (Obj.cells (st7 y) e (0, 0)) ∧
    IsState (((((((w5.setCell ⟨n0, 0, none⟩ (.slice y.s.A y.s.cals.length y.s.c)).setCell ⟨n0, 1, none⟩ (.slice y.s.B y.s.rows.length y.s.d)).setCell ⟨n0, 2, none⟩ (.int .i64 y.s.most)).setCell ⟨n0, 3, none⟩ (.slice y.A y.L.length y.c)).setCell ⟨n0, 4, none⟩ (.slice y.gA y.bg.length y.gc)).setCell ⟨n0, 5, none⟩ (.slice y.pA y.pd.length y.pc)).setCell ⟨n0, 6, none⟩ (.slice y.dA y.dr.length y.dc)) y := by
  obtain ⟨l⟩ := zc
  match l, hz with
  | [_, _, _, _, _, _, _], _ => exact ⟨set7_at hc, (hf.change (fun b hb _ => set7_ne (by omega)) set7_size).state⟩
end Go.Proofs.YtpaojgfmffkodaaGreat
