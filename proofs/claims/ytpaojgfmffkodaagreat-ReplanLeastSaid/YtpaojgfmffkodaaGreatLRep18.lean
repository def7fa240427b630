/- Layer 54: the program's Apply, its beginning. -/
import Derived.Test.YtpaojgfmffkodaaGreatLRep24
import Derived.Deep.CutRange
namespace Go.Proofs.YtpaojgfmffkodaaGreat
set_option linter.unusedVariables false
set_option linter.unusedSimpArgs false
open Go.RowKit Go.Sort
attribute [local go_sem ↓] Go.wp_at_zero Go.wp_at_succ
section
variable {P : Program} {ops : Array Oper} {Q : Exit → Act → World → Prop} {md : Region.Mode} {S : World → Prop} {X : List Nat}
theorem stepL3 {i j k : Nat} {o p q : Oper} {fuel : Nat} {listed : Array Bool} {a : Act} {w : World} (hr : Region.ready md ops listed = [i, j, k]) (ho : ops[i]? = some o) (hp : ops[j]? = some p) (hq : ops[k]? = some q)
    (h1 : ∀ K' : Act → World → Prop, Shut (∀ a w, S w → (S w → wpAnyL P md ops Q S X fuel (listed.setIfInBounds i true) a w) → K' a w) → if Region.wanted o (yielded ops a.tmps) = true then Oper.wp P o a w K' Q else K' (a.put o.dst undef) w)
    (h2 : ∀ K' : Act → World → Prop, Shut (∀ a w, S w → (S w → wpAnyL P md ops Q S X fuel (listed.setIfInBounds j true) a w) → K' a w) → if Region.wanted p (yielded ops a.tmps) = true then Oper.wp P p a w K' Q else K' (a.put p.dst undef) w)
    (h3 : ∀ K' : Act → World → Prop, Shut (∀ a w, S w → (S w → wpAnyL P md ops Q S X fuel (listed.setIfInBounds k true) a w) → K' a w) → if Region.wanted q (yielded ops a.tmps) = true then Oper.wp P q a w K' Q else K' (a.put q.dst undef) w) : wpAnyL P md ops Q S X (fuel + 1) listed a w := by
  refine ⟨(fun h0 => by rw [hr] at h0; cases h0), fun n hn => ?_⟩
  rw [hr] at hn
  rcases List.mem_cons.1 hn with rfl | hn
  · exact wpOp_step ho (fun K' hK => h1 K' (fun a w hS hW => hK a w ⟨fun _ => hS, hW hS⟩))
  rcases List.mem_cons.1 hn with rfl | hn
  · exact wpOp_step hp (fun K' hK => h2 K' (fun a w hS hW => hK a w ⟨fun _ => hS, hW hS⟩))
  · rw [List.mem_singleton] at hn
    subst hn
    exact wpOp_step hq (fun K' hK => h3 K' (fun a w hS hW => hK a w ⟨fun _ => hS, hW hS⟩))
end
set_option maxRecDepth 100000 in
set_option maxHeartbeats 16000000 in
theorem apply_any (s : ShopR) (A : Option Addr) (c : Nat) (L : List JobR) (B : Option Addr) (d : Nat) (plan : List SlotR) (now : Int) (E : Option Addr) (ec : Nat) (evs : List EvR) (w : World) (hs : IsShop w s) (hL : IsJobs w A c L) (hl : IsSlots w B d plan) (he : IsEvs w E ec evs) (hll : plan.length ≤ 1000000) (hcap : plan.length ≤ d) (hel : evs.length < 4611686018427387904) :
    Calls Tryz.prog 11 #[shopV s, .slice A L.length c, .slice B plan.length d, .int .i64 now, .slice E evs.length ec] w fun e w' => ∃ x : StR, e = .returned (.tuple #[stateV x, .int .i64 (applyV s L plan now evs).1]) ∧ erSt x = (applyV s L plan now evs).2 ∧ StFrom w.heap.size w' x ∧ SinceOf w w' := by
  obtain ⟨res, hres⟩ : ∃ r, r = applyV s L plan now evs := ⟨_, rfl⟩
  rw [← hres]
  unfold applyV at hres
  have VA := fun W (hW : SinceOf w W) => valid52_any s A c L B d plan W (hs.of hW) (hL.of hW) (hl.of hW) (by omega) hcap
  have hz0 := zeroSt_is w
  have hjl := hL.len
  by_cases e1 : (validT s L plan).2 = 0
  · rw [if_pos e1] at hres
    have hck := (validT_zero.1 e1).1
    have HG := Lib.hid (validT_zero.1 e1).2
    rw [e1] at VA
    generalize (validT s L plan).1 = vv at VA
    have HL := check_lens hck
    have CP := fun W (hW : SinceOf w W) => copyShop_any s W (hs.of hW) (by have := HL.cals; omega) (by have := HL.rows; omega) HL.each HL.row
    have HW := Lib.hid (And.intro hs (And.intro hL (And.intro hl (And.intro he (And.intro hck HL)))))
    have hL40 := HL.jobs
    clear hs hL hl he hck HL e1
    obtain ⟨sA, sc, cals, sB, sd, R, most⟩ := s
    by_cases e2 : now < 0 ∨ 1000000 < now
    · rw [if_pos e2] at hres
      subst hres
      have HZ := Lib.hid hz0
      clear hz0 CP
      rcases (show now < 0 ∨ (¬ now < 0 ∧ 1000000 < now) by omega) with e3 | ⟨e3, e4⟩
      all_goals
        clear e2
        go_enter Tryz.func11, Tryz.ntmps11
        go_wp2_with fail
        refine (VA _ Sx).calls.mono ?_
        rintro e _ ⟨rfl, z1, rfl⟩
        go_wp2_with fail
        go_returns
        exact ⟨zeroSt, rfl, rfl, zeroSt_from _ _, Sx⟩
    · rw [if_neg e2] at hres
      have e3 : ¬ now < 0 := by omega
      have e4 : ¬ 1000000 < now := by omega
      by_cases e5 : 20 < evs.length
      · rw [if_pos e5] at hres
        subst hres
        have HZ := Lib.hid hz0
        clear hz0 CP
        have e6 : 20 < (evs.length : Int) := by omega
        clear e2 e5
        go_enter Tryz.func11, Tryz.ntmps11
        go_wp2_with fail
        refine (VA _ Sx).calls.mono ?_
        rintro e _ ⟨rfl, z1, rfl⟩
        go_wp2_with fail
        go_returns
        exact ⟨zeroSt, rfl, rfl, zeroSt_from _ _, Sx⟩
      · rw [if_neg e5] at hres
        have HR := Lib.hid hres
        have HZ := Lib.hid hz0
        have e6 : ¬ 20 < (evs.length : Int) := by omega
        obtain ⟨b0i, bi, bz0, bz1, bz2⟩ := info_parts infoBool
        have BI := Lib.hid (And.intro bi (And.intro bz0 (And.intro bz1 bz2)))
        clear e2 e5 hres hz0 bi bz0 bz1 bz2
        go_enter Tryz.func11, Tryz.ntmps11
        go_wp2_with fail
        refine (VA _ Sx).calls.mono ?_
        rintro e _ ⟨rfl, z1, rfl⟩
        go_upto_region 8 with fail
        have hz1 := z1.size
        (try simp at hz1)
        go_cut [14] from 49 to 57 (fun s14 wx => ∃ (ct g : Nat) (x : StR), s14 = .pointer (some ⟨ct, 0, none⟩) ∧ ApAt wx (w.heap.size + 2) ct g now x ∧ w.heap.size + 2 ≤ wx.heap.size ∧ erS x.s = erS ⟨sA, sc, cals, sB, sd, R, most⟩ ∧ x.L = [] ∧ x.bg = [] ∧ x.pd = [] ∧ x.dr = List.replicate L.length false ∧ SinceOf ((w.alloc (.cells #[.slice sA cals.length sc, .slice sB R.length sd, .int .i64 most] 37)).alloc (.cells #[.slice none 0 0, .slice none 0 0, .int .i64 0, .slice none 0 0, .slice none 0 0, .slice none 0 0, .slice none 0 0] 42)) wx)
        case first =>
          refine regionL [10] (S := (fun w' => w'.cell? ⟨w.heap.size, 0, none⟩ = some (.slice sA cals.length sc) ∧ w'.cell? ⟨w.heap.size, 1, none⟩ = some (.slice sB R.length sd) ∧ w'.cell? ⟨w.heap.size, 2, none⟩ = some (.int .i64 most))) (by kernel_rfl) ?_ (fun hHeld0 => ?_)
          · simp [go_sem, *]
          refine tK (i := 0) (d := some 49) (v := ?_) rfl rfl (fun _ _ _ h => h) (Or.inl ⟨by rfl, ?_⟩) (by assumption) ?_
          rotate_left 1
          · (intro w hSw; (try dsimp only at hSw); go_simp) <;> (with_reducible rfl)
          (try simp only [Act.put, List.setIfInBounds_toArray, List.set_cons_zero, List.set_cons_succ])
          refine tK (i := 2) (d := some 51) (v := ?_) rfl rfl (fun _ _ _ h => h) (Or.inl ⟨by rfl, ?_⟩) (by assumption) ?_
          rotate_left 1
          · (intro w hSw; (try dsimp only at hSw); go_simp) <;> (with_reducible rfl)
          (try simp only [Act.put, List.setIfInBounds_toArray, List.set_cons_zero, List.set_cons_succ])
          refine tK (i := 3) (d := some 52) (v := ?_) rfl rfl (fun _ _ _ h => h) (Or.inl ⟨by rfl, ?_⟩) (by assumption) ?_
          rotate_left 1
          · (intro w hSw; (try dsimp only at hSw); go_simp) <;> (with_reducible rfl)
          (try simp only [Act.put, List.setIfInBounds_toArray, List.set_cons_zero, List.set_cons_succ])
          refine tK (i := 6) (d := some 55) (v := ?_) rfl rfl (fun _ _ _ h => h) (Or.inl ⟨by rfl, ?_⟩) (by assumption) ?_
          rotate_left 1
          · (intro w hSw; (try dsimp only at hSw); go_simp) <;> (with_reducible rfl)
          (try simp only [Act.put, List.setIfInBounds_toArray, List.set_cons_zero, List.set_cons_succ])
          refine stepL3 (i := 1) (j := 4) (k := 9) (by kernel_rfl) rfl rfl rfl (fun K' hK => ?_) (fun K' hK => ?_) (fun K' hK => ?_)
          · go_simp
            refine (CP _ Sx).mono ?_
            rintro e _ ⟨s2, rfl, hers, hcals, hrows, ⟨zc, rfl⟩⟩
            have hzc := zc.size
            (try simp at hzc)
            go_wp2_with fail
            refine hK.out _ _ ?_ (fun hHeld1 => ?_)
            · simp [go_sem, hHeld0]
            clear hK K' hHeld0
            refine stepL2 (i := 4) (j := 9) (by kernel_rfl) rfl rfl (fun K' hK => ?_) (fun K' hK => ?_)
            · refine step_make_owns (by rfl) (.tmp 52) (.tmp 52) 40 (by rfl) encB_len false b0i _ 1 Tryz.underlying40 BI.out.1 BI.out.2.1 BI.out.2.2.1 BI.out.2.2.2 rfl (by omega) (base := w.heap.size + 2) L.length L.length (by rfl) (by rfl) (Nat.le_refl _) (by omega) (by unfold maxLen; omega) (by first | omega | (simp; done) | (simp; omega)) ?_
              intro dcs hdo
              (try simp only [World.size_alloc, World.size_drew] at hdo)
              refine hK.out _ _ ?_ (fun hHeld2 => ?_)
              · simp [go_sem, hHeld1]
              clear hK K' hHeld1
              refine tK (i := 5) (d := some 54) (v := ?_) rfl rfl (fun _ _ _ h => h) (Or.inl ⟨by rfl, ?_⟩) (by assumption) ?_
              rotate_left 1
              · (intro w hSw; (try dsimp only at hSw); go_simp) <;> (with_reducible rfl)
              (try simp only [Act.put, List.setIfInBounds_toArray, List.set_cons_zero, List.set_cons_succ])
              refine tK (i := 7) (d := some 56) (v := ?_) rfl rfl (fun _ _ _ h => h) (Or.inl ⟨by rfl, ?_⟩) (by assumption) ?_
              rotate_left 1
              · (intro w hSw; (try dsimp only at hSw); go_simp) <;> (with_reducible rfl)
              (try simp only [Act.put, List.setIfInBounds_toArray, List.set_cons_zero, List.set_cons_succ])
              refine stepL2 (i := 8) (j := 9) (by kernel_rfl) rfl rfl (fun K' hK => ?_) (fun K' hK => ?_)
              · go_simp
                refine hK.out _ _ ?_ (fun hHeld3 => ?_)
                · simp [go_sem, hHeld2]
                clear hK K' hHeld2
                refine stepL (i := 9) (by kernel_rfl) rfl (fun K' hK => ?_)
                go_simp
                refine hK.out _ _ ?_ (fun hHeld4 => ?_)
                · simp [go_sem, hHeld3]
                clear hK K' hHeld3
                clear hHeld4
                generalize hV : (World.alloc (World.alloc (World.alloc zc.wd _) _) _) = V
                have hVs : SinceOf z1.wd V := by rw [← hV]; (repeat (with_reducible first | exact Sr _ | assumption | refine Sa ?_ _ | refine Sd ?_ | refine Sn ?_ _ | refine Se ?_ _ | refine Sf ?_ _ | refine Sc ?_ (by first | exact Nat.le_refl _ | (simp; done) | omega | (simp; omega)) _))
                have hcV : V.heap[zc.wd.heap.size + 1 + 1]? = some (Obj.cells #[.pointer none] 89 (0, 0)) := by
                  rw [← hV]
                  apply heapMade
                  · (repeat (with_reducible first | exact Sr _ | assumption | refine Sa ?_ _ | refine Sd ?_ | refine Sn ?_ _ | refine Se ?_ _ | refine Sf ?_ _ | refine Sc ?_ (by first | exact Nat.le_refl _ | (simp; done) | omega | (simp; omega)) _))
                  · first | rfl | (simp; done) | (simp; omega)
                have ct0 := cell_of (i := 0) hcV rfl
                have ctf := free_of hcV 0
                refine lastL (i := 10) (by kernel_rfl) (by rfl) rfl (fun K' hK => ?_)
                go_simp
                refine hK.out _ _ ?_
                clear hK K'
                refine doneL (by kernel_rfl) ?_ _
                go_wp2_with fail
                go_meet
                apply apLeafS
                · refine SinceOf.setCell (SinceOf.trans (?_ : SinceOf _ z1.wd) hVs) (by first | omega | (simp; done) | (simp; omega)) _
                  (repeat (with_reducible first | exact Sr _ | assumption | refine Sa ?_ _ | refine Sd ?_ | refine Sn ?_ _ | refine Se ?_ _ | refine Sf ?_ _ | refine Sc ?_ (by first | exact Nat.le_refl _ | (simp; done) | omega | (simp; omega)) _))
                · exact hcV
                · rw [← hV]
                  apply heapMade
                  · (repeat (with_reducible first | exact Sr _ | assumption | refine Sa ?_ _ | refine Sd ?_ | refine Sn ?_ _ | refine Se ?_ _ | refine Sf ?_ _ | refine Sc ?_ (by first | exact Nat.le_refl _ | (simp; done) | omega | (simp; omega)) _))
                  · first | omega | (simp; done) | (simp; omega)
                · rw [← hV]
                  exact hdo.of Sx
                · rw [← hV]
                  exact (hcals.base_le (by first | omega | (simp; done) | (simp; omega))).of Sx
                · rw [← hV]
                  exact (hrows.base_le (by first | omega | (simp; done) | (simp; omega))).of Sx
                · first | omega | (simp; done) | (simp; omega)
                · first | omega | (simp; done) | (simp; omega)
                · rw [← hV]
                  first | omega | (simp; done) | (simp; omega)
                · exact hers
              · go_simp
                refine hK.out _ _ ?_ (fun hHeld3 => ?_)
                · simp [go_sem, hHeld2]
                clear hK K' hHeld2
                refine stepL (i := 8) (by kernel_rfl) rfl (fun K' hK => ?_)
                go_simp
                refine hK.out _ _ ?_ (fun hHeld4 => ?_)
                · simp [go_sem, hHeld3]
                clear hK K' hHeld3
                clear hHeld4
                generalize hV : (World.alloc (World.alloc (World.alloc zc.wd _) _) _) = V
                have hVs : SinceOf z1.wd V := by rw [← hV]; (repeat (with_reducible first | exact Sr _ | assumption | refine Sa ?_ _ | refine Sd ?_ | refine Sn ?_ _ | refine Se ?_ _ | refine Sf ?_ _ | refine Sc ?_ (by first | exact Nat.le_refl _ | (simp; done) | omega | (simp; omega)) _))
                have hcV : V.heap[zc.wd.heap.size + 1]? = some (Obj.cells #[.pointer none] 89 (0, 0)) := by
                  rw [← hV]
                  apply heapMade
                  · (repeat (with_reducible first | exact Sr _ | assumption | refine Sa ?_ _ | refine Sd ?_ | refine Sn ?_ _ | refine Se ?_ _ | refine Sf ?_ _ | refine Sc ?_ (by first | exact Nat.le_refl _ | (simp; done) | omega | (simp; omega)) _))
                  · first | rfl | (simp; done) | (simp; omega)
                have ct0 := cell_of (i := 0) hcV rfl
                have ctf := free_of hcV 0
                refine lastL (i := 10) (by kernel_rfl) (by rfl) rfl (fun K' hK => ?_)
                go_simp
                refine hK.out _ _ ?_
                clear hK K'
                refine doneL (by kernel_rfl) ?_ _
                go_wp2_with fail
                go_meet
                apply apLeafS
                · refine SinceOf.setCell (SinceOf.trans (?_ : SinceOf _ z1.wd) hVs) (by first | omega | (simp; done) | (simp; omega)) _
                  (repeat (with_reducible first | exact Sr _ | assumption | refine Sa ?_ _ | refine Sd ?_ | refine Sn ?_ _ | refine Se ?_ _ | refine Sf ?_ _ | refine Sc ?_ (by first | exact Nat.le_refl _ | (simp; done) | omega | (simp; omega)) _))
                · exact hcV
                · rw [← hV]
                  apply heapMade
                  · (repeat (with_reducible first | exact Sr _ | assumption | refine Sa ?_ _ | refine Sd ?_ | refine Sn ?_ _ | refine Se ?_ _ | refine Sf ?_ _ | refine Sc ?_ (by first | exact Nat.le_refl _ | (simp; done) | omega | (simp; omega)) _))
                  · first | omega | (simp; done) | (simp; omega)
                · rw [← hV]
                  exact hdo.of Sx
                · rw [← hV]
                  exact (hcals.base_le (by first | omega | (simp; done) | (simp; omega))).of Sx
                · rw [← hV]
                  exact (hrows.base_le (by first | omega | (simp; done) | (simp; omega))).of Sx
                · first | omega | (simp; done) | (simp; omega)
                · first | omega | (simp; done) | (simp; omega)
                · rw [← hV]
                  first | omega | (simp; done) | (simp; omega)
                · exact hers
            · go_simp
              refine hK.out _ _ ?_ (fun hHeld2 => ?_)
              · simp [go_sem, hHeld1]
              clear hK K' hHeld1
              refine stepL (i := 4) (by kernel_rfl) rfl (fun K' hK => ?_)
              refine step_make_owns (by rfl) (.tmp 52) (.tmp 52) 40 (by rfl) encB_len false b0i _ 1 Tryz.underlying40 BI.out.1 BI.out.2.1 BI.out.2.2.1 BI.out.2.2.2 rfl (by omega) (base := w.heap.size + 2) L.length L.length (by rfl) (by rfl) (Nat.le_refl _) (by omega) (by unfold maxLen; omega) (by first | omega | (simp; done) | (simp; omega)) ?_
              intro dcs hdo
              (try simp only [World.size_alloc, World.size_drew] at hdo)
              refine hK.out _ _ ?_ (fun hHeld3 => ?_)
              · simp [go_sem, hHeld2]
              clear hK K' hHeld2
              refine tK (i := 5) (d := some 54) (v := ?_) rfl rfl (fun _ _ _ h => h) (Or.inl ⟨by rfl, ?_⟩) (by assumption) ?_
              rotate_left 1
              · (intro w hSw; (try dsimp only at hSw); go_simp) <;> (with_reducible rfl)
              (try simp only [Act.put, List.setIfInBounds_toArray, List.set_cons_zero, List.set_cons_succ])
              refine tK (i := 7) (d := some 56) (v := ?_) rfl rfl (fun _ _ _ h => h) (Or.inl ⟨by rfl, ?_⟩) (by assumption) ?_
              rotate_left 1
              · (intro w hSw; (try dsimp only at hSw); go_simp) <;> (with_reducible rfl)
              (try simp only [Act.put, List.setIfInBounds_toArray, List.set_cons_zero, List.set_cons_succ])
              refine stepL (i := 8) (by kernel_rfl) rfl (fun K' hK => ?_)
              go_simp
              refine hK.out _ _ ?_ (fun hHeld4 => ?_)
              · simp [go_sem, hHeld3]
              clear hK K' hHeld3
              clear hHeld4
              generalize hV : (World.alloc (World.alloc (World.alloc zc.wd _) _) _) = V
              have hVs : SinceOf z1.wd V := by rw [← hV]; (repeat (with_reducible first | exact Sr _ | assumption | refine Sa ?_ _ | refine Sd ?_ | refine Sn ?_ _ | refine Se ?_ _ | refine Sf ?_ _ | refine Sc ?_ (by first | exact Nat.le_refl _ | (simp; done) | omega | (simp; omega)) _))
              have hcV : V.heap[zc.wd.heap.size]? = some (Obj.cells #[.pointer none] 89 (0, 0)) := by
                rw [← hV]
                apply heapMade
                · (repeat (with_reducible first | exact Sr _ | assumption | refine Sa ?_ _ | refine Sd ?_ | refine Sn ?_ _ | refine Se ?_ _ | refine Sf ?_ _ | refine Sc ?_ (by first | exact Nat.le_refl _ | (simp; done) | omega | (simp; omega)) _))
                · first | rfl | (simp; done) | (simp; omega)
              have ct0 := cell_of (i := 0) hcV rfl
              have ctf := free_of hcV 0
              refine lastL (i := 10) (by kernel_rfl) (by rfl) rfl (fun K' hK => ?_)
              go_simp
              refine hK.out _ _ ?_
              clear hK K'
              refine doneL (by kernel_rfl) ?_ _
              go_wp2_with fail
              go_meet
              apply apLeafS
              · refine SinceOf.setCell (SinceOf.trans (?_ : SinceOf _ z1.wd) hVs) (by first | omega | (simp; done) | (simp; omega)) _
                (repeat (with_reducible first | exact Sr _ | assumption | refine Sa ?_ _ | refine Sd ?_ | refine Sn ?_ _ | refine Se ?_ _ | refine Sf ?_ _ | refine Sc ?_ (by first | exact Nat.le_refl _ | (simp; done) | omega | (simp; omega)) _))
              · exact hcV
              · rw [← hV]
                apply heapMade
                · (repeat (with_reducible first | exact Sr _ | assumption | refine Sa ?_ _ | refine Sd ?_ | refine Sn ?_ _ | refine Se ?_ _ | refine Sf ?_ _ | refine Sc ?_ (by first | exact Nat.le_refl _ | (simp; done) | omega | (simp; omega)) _))
                · first | omega | (simp; done) | (simp; omega)
              · rw [← hV]
                exact hdo.of Sx
              · rw [← hV]
                exact (hcals.base_le (by first | omega | (simp; done) | (simp; omega))).of Sx
              · rw [← hV]
                exact (hrows.base_le (by first | omega | (simp; done) | (simp; omega))).of Sx
              · first | omega | (simp; done) | (simp; omega)
              · first | omega | (simp; done) | (simp; omega)
              · rw [← hV]
                first | omega | (simp; done) | (simp; omega)
              · exact hers
          · refine step_make_owns (by rfl) (.tmp 52) (.tmp 52) 40 (by rfl) encB_len false b0i _ 1 Tryz.underlying40 BI.out.1 BI.out.2.1 BI.out.2.2.1 BI.out.2.2.2 rfl (by omega) (base := w.heap.size + 2) L.length L.length (by rfl) (by rfl) (Nat.le_refl _) (by omega) (by unfold maxLen; omega) (by first | omega | (simp; done) | (simp; omega)) ?_
            intro dcs hdo
            (try simp only [World.size_alloc, World.size_drew] at hdo)
            replace hdo : Owns encB 1 (w.heap.size + 2) 4 (z1.wd.alloc (.cells dcs 4)) _ _ _ := hdo
            refine hK.out _ _ ?_ (fun hHeld1 => ?_)
            · simp [go_sem, hHeld0]
            clear hK K' hHeld0
            refine stepL2 (i := 1) (j := 9) (by kernel_rfl) rfl rfl (fun K' hK => ?_) (fun K' hK => ?_)
            · go_simp
              refine (CP _ Sx).mono ?_
              rintro e _ ⟨s2, rfl, hers, hcals, hrows, ⟨zc, rfl⟩⟩
              have hzc := zc.size
              (try simp at hzc)
              go_wp2_with fail
              refine hK.out _ _ ?_ (fun hHeld2 => ?_)
              · simp [go_sem, hHeld1]
              clear hK K' hHeld1
              refine tK (i := 5) (d := some 54) (v := ?_) rfl rfl (fun _ _ _ h => h) (Or.inl ⟨by rfl, ?_⟩) (by assumption) ?_
              rotate_left 1
              · (intro w hSw; (try dsimp only at hSw); go_simp) <;> (with_reducible rfl)
              (try simp only [Act.put, List.setIfInBounds_toArray, List.set_cons_zero, List.set_cons_succ])
              refine tK (i := 7) (d := some 56) (v := ?_) rfl rfl (fun _ _ _ h => h) (Or.inl ⟨by rfl, ?_⟩) (by assumption) ?_
              rotate_left 1
              · (intro w hSw; (try dsimp only at hSw); go_simp) <;> (with_reducible rfl)
              (try simp only [Act.put, List.setIfInBounds_toArray, List.set_cons_zero, List.set_cons_succ])
              refine stepL2 (i := 8) (j := 9) (by kernel_rfl) rfl rfl (fun K' hK => ?_) (fun K' hK => ?_)
              · go_simp
                refine hK.out _ _ ?_ (fun hHeld3 => ?_)
                · simp [go_sem, hHeld2]
                clear hK K' hHeld2
                refine stepL (i := 9) (by kernel_rfl) rfl (fun K' hK => ?_)
                go_simp
                refine hK.out _ _ ?_ (fun hHeld4 => ?_)
                · simp [go_sem, hHeld3]
                clear hK K' hHeld3
                clear hHeld4
                generalize hV : (World.alloc (World.alloc zc.wd _) _) = V
                have hVs : SinceOf z1.wd V := by rw [← hV]; (repeat (with_reducible first | exact Sr _ | assumption | refine Sa ?_ _ | refine Sd ?_ | refine Sn ?_ _ | refine Se ?_ _ | refine Sf ?_ _ | refine Sc ?_ (by first | exact Nat.le_refl _ | (simp; done) | omega | (simp; omega)) _))
                have hcV : V.heap[zc.wd.heap.size + 1]? = some (Obj.cells #[.pointer none] 89 (0, 0)) := by
                  rw [← hV]
                  apply heapMade
                  · (repeat (with_reducible first | exact Sr _ | assumption | refine Sa ?_ _ | refine Sd ?_ | refine Sn ?_ _ | refine Se ?_ _ | refine Sf ?_ _ | refine Sc ?_ (by first | exact Nat.le_refl _ | (simp; done) | omega | (simp; omega)) _))
                  · first | rfl | (simp; done) | (simp; omega)
                have ct0 := cell_of (i := 0) hcV rfl
                have ctf := free_of hcV 0
                refine lastL (i := 10) (by kernel_rfl) (by rfl) rfl (fun K' hK => ?_)
                go_simp
                refine hK.out _ _ ?_
                clear hK K'
                refine doneL (by kernel_rfl) ?_ _
                go_wp2_with fail
                go_meet
                apply apLeafS
                · refine SinceOf.setCell (SinceOf.trans (?_ : SinceOf _ z1.wd) hVs) (by first | omega | (simp; done) | (simp; omega)) _
                  (repeat (with_reducible first | exact Sr _ | assumption | refine Sa ?_ _ | refine Sd ?_ | refine Sn ?_ _ | refine Se ?_ _ | refine Sf ?_ _ | refine Sc ?_ (by first | exact Nat.le_refl _ | (simp; done) | omega | (simp; omega)) _))
                · exact hcV
                · rw [← hV]
                  apply heapMade
                  · (repeat (with_reducible first | exact Sr _ | assumption | refine Sa ?_ _ | refine Sd ?_ | refine Sn ?_ _ | refine Se ?_ _ | refine Sf ?_ _ | refine Sc ?_ (by first | exact Nat.le_refl _ | (simp; done) | omega | (simp; omega)) _))
                  · first | omega | (simp; done) | (simp; omega)
                · rw [← hV]
                  exact hdo.of Sx
                · rw [← hV]
                  exact (hcals.base_le (by first | omega | (simp; done) | (simp; omega))).of Sx
                · rw [← hV]
                  exact (hrows.base_le (by first | omega | (simp; done) | (simp; omega))).of Sx
                · first | omega | (simp; done) | (simp; omega)
                · first | omega | (simp; done) | (simp; omega)
                · rw [← hV]
                  first | omega | (simp; done) | (simp; omega)
                · exact hers
              · go_simp
                refine hK.out _ _ ?_ (fun hHeld3 => ?_)
                · simp [go_sem, hHeld2]
                clear hK K' hHeld2
                refine stepL (i := 8) (by kernel_rfl) rfl (fun K' hK => ?_)
                go_simp
                refine hK.out _ _ ?_ (fun hHeld4 => ?_)
                · simp [go_sem, hHeld3]
                clear hK K' hHeld3
                clear hHeld4
                generalize hV : (World.alloc (World.alloc zc.wd _) _) = V
                have hVs : SinceOf z1.wd V := by rw [← hV]; (repeat (with_reducible first | exact Sr _ | assumption | refine Sa ?_ _ | refine Sd ?_ | refine Sn ?_ _ | refine Se ?_ _ | refine Sf ?_ _ | refine Sc ?_ (by first | exact Nat.le_refl _ | (simp; done) | omega | (simp; omega)) _))
                have hcV : V.heap[zc.wd.heap.size]? = some (Obj.cells #[.pointer none] 89 (0, 0)) := by
                  rw [← hV]
                  apply heapMade
                  · (repeat (with_reducible first | exact Sr _ | assumption | refine Sa ?_ _ | refine Sd ?_ | refine Sn ?_ _ | refine Se ?_ _ | refine Sf ?_ _ | refine Sc ?_ (by first | exact Nat.le_refl _ | (simp; done) | omega | (simp; omega)) _))
                  · first | rfl | (simp; done) | (simp; omega)
                have ct0 := cell_of (i := 0) hcV rfl
                have ctf := free_of hcV 0
                refine lastL (i := 10) (by kernel_rfl) (by rfl) rfl (fun K' hK => ?_)
                go_simp
                refine hK.out _ _ ?_
                clear hK K'
                refine doneL (by kernel_rfl) ?_ _
                go_wp2_with fail
                go_meet
                apply apLeafS
                · refine SinceOf.setCell (SinceOf.trans (?_ : SinceOf _ z1.wd) hVs) (by first | omega | (simp; done) | (simp; omega)) _
                  (repeat (with_reducible first | exact Sr _ | assumption | refine Sa ?_ _ | refine Sd ?_ | refine Sn ?_ _ | refine Se ?_ _ | refine Sf ?_ _ | refine Sc ?_ (by first | exact Nat.le_refl _ | (simp; done) | omega | (simp; omega)) _))
                · exact hcV
                · rw [← hV]
                  apply heapMade
                  · (repeat (with_reducible first | exact Sr _ | assumption | refine Sa ?_ _ | refine Sd ?_ | refine Sn ?_ _ | refine Se ?_ _ | refine Sf ?_ _ | refine Sc ?_ (by first | exact Nat.le_refl _ | (simp; done) | omega | (simp; omega)) _))
                  · first | omega | (simp; done) | (simp; omega)
                · rw [← hV]
                  exact hdo.of Sx
                · rw [← hV]
                  exact (hcals.base_le (by first | omega | (simp; done) | (simp; omega))).of Sx
                · rw [← hV]
                  exact (hrows.base_le (by first | omega | (simp; done) | (simp; omega))).of Sx
                · first | omega | (simp; done) | (simp; omega)
                · first | omega | (simp; done) | (simp; omega)
                · rw [← hV]
                  first | omega | (simp; done) | (simp; omega)
                · exact hers
            · go_simp
              refine hK.out _ _ ?_ (fun hHeld2 => ?_)
              · simp [go_sem, hHeld1]
              clear hK K' hHeld1
              refine stepL (i := 1) (by kernel_rfl) rfl (fun K' hK => ?_)
              go_simp
              refine (CP _ Sx).mono ?_
              rintro e _ ⟨s2, rfl, hers, hcals, hrows, ⟨zc, rfl⟩⟩
              have hzc := zc.size
              (try simp at hzc)
              go_wp2_with fail
              refine hK.out _ _ ?_ (fun hHeld3 => ?_)
              · simp [go_sem, hHeld2]
              clear hK K' hHeld2
              refine tK (i := 5) (d := some 54) (v := ?_) rfl rfl (fun _ _ _ h => h) (Or.inl ⟨by rfl, ?_⟩) (by assumption) ?_
              rotate_left 1
              · (intro w hSw; (try dsimp only at hSw); go_simp) <;> (with_reducible rfl)
              (try simp only [Act.put, List.setIfInBounds_toArray, List.set_cons_zero, List.set_cons_succ])
              refine tK (i := 7) (d := some 56) (v := ?_) rfl rfl (fun _ _ _ h => h) (Or.inl ⟨by rfl, ?_⟩) (by assumption) ?_
              rotate_left 1
              · (intro w hSw; (try dsimp only at hSw); go_simp) <;> (with_reducible rfl)
              (try simp only [Act.put, List.setIfInBounds_toArray, List.set_cons_zero, List.set_cons_succ])
              refine stepL (i := 8) (by kernel_rfl) rfl (fun K' hK => ?_)
              go_simp
              refine hK.out _ _ ?_ (fun hHeld4 => ?_)
              · simp [go_sem, hHeld3]
              clear hK K' hHeld3
              clear hHeld4
              generalize hV : (World.alloc zc.wd _) = V
              have hVs : SinceOf z1.wd V := by rw [← hV]; (repeat (with_reducible first | exact Sr _ | assumption | refine Sa ?_ _ | refine Sd ?_ | refine Sn ?_ _ | refine Se ?_ _ | refine Sf ?_ _ | refine Sc ?_ (by first | exact Nat.le_refl _ | (simp; done) | omega | (simp; omega)) _))
              have hcV : V.heap[z1.wd.heap.size + 1]? = some (Obj.cells #[.pointer none] 89 (0, 0)) := by
                rw [← hV]
                apply heapMade
                · (repeat (with_reducible first | exact Sr _ | assumption | refine Sa ?_ _ | refine Sd ?_ | refine Sn ?_ _ | refine Se ?_ _ | refine Sf ?_ _ | refine Sc ?_ (by first | exact Nat.le_refl _ | (simp; done) | omega | (simp; omega)) _))
                · first | rfl | (simp; done) | (simp; omega)
              have ct0 := cell_of (i := 0) hcV rfl
              have ctf := free_of hcV 0
              refine lastL (i := 10) (by kernel_rfl) (by rfl) rfl (fun K' hK => ?_)
              go_simp
              refine hK.out _ _ ?_
              clear hK K'
              refine doneL (by kernel_rfl) ?_ _
              go_wp2_with fail
              go_meet
              apply apLeafS
              · refine SinceOf.setCell (SinceOf.trans (?_ : SinceOf _ z1.wd) hVs) (by first | omega | (simp; done) | (simp; omega)) _
                (repeat (with_reducible first | exact Sr _ | assumption | refine Sa ?_ _ | refine Sd ?_ | refine Sn ?_ _ | refine Se ?_ _ | refine Sf ?_ _ | refine Sc ?_ (by first | exact Nat.le_refl _ | (simp; done) | omega | (simp; omega)) _))
              · exact hcV
              · rw [← hV]
                apply heapMade
                · (repeat (with_reducible first | exact Sr _ | assumption | refine Sa ?_ _ | refine Sd ?_ | refine Sn ?_ _ | refine Se ?_ _ | refine Sf ?_ _ | refine Sc ?_ (by first | exact Nat.le_refl _ | (simp; done) | omega | (simp; omega)) _))
                · first | omega | (simp; done) | (simp; omega)
              · rw [← hV]
                exact hdo.of Sx
              · rw [← hV]
                exact (hcals.base_le (by first | omega | (simp; done) | (simp; omega))).of Sx
              · rw [← hV]
                exact (hrows.base_le (by first | omega | (simp; done) | (simp; omega))).of Sx
              · first | omega | (simp; done) | (simp; omega)
              · first | omega | (simp; done) | (simp; omega)
              · rw [← hV]
                first | omega | (simp; done) | (simp; omega)
              · exact hers
          · go_simp
            refine hK.out _ _ ?_ (fun hHeld1 => ?_)
            · simp [go_sem, hHeld0]
            clear hK K' hHeld0
            refine stepL2 (i := 1) (j := 4) (by kernel_rfl) rfl rfl (fun K' hK => ?_) (fun K' hK => ?_)
            · go_simp
              refine (CP _ Sx).mono ?_
              rintro e _ ⟨s2, rfl, hers, hcals, hrows, ⟨zc, rfl⟩⟩
              have hzc := zc.size
              (try simp at hzc)
              go_wp2_with fail
              refine hK.out _ _ ?_ (fun hHeld2 => ?_)
              · simp [go_sem, hHeld1]
              clear hK K' hHeld1
              refine stepL (i := 4) (by kernel_rfl) rfl (fun K' hK => ?_)
              refine step_make_owns (by rfl) (.tmp 52) (.tmp 52) 40 (by rfl) encB_len false b0i _ 1 Tryz.underlying40 BI.out.1 BI.out.2.1 BI.out.2.2.1 BI.out.2.2.2 rfl (by omega) (base := w.heap.size + 2) L.length L.length (by rfl) (by rfl) (Nat.le_refl _) (by omega) (by unfold maxLen; omega) (by first | omega | (simp; done) | (simp; omega)) ?_
              intro dcs hdo
              (try simp only [World.size_alloc, World.size_drew] at hdo)
              refine hK.out _ _ ?_ (fun hHeld3 => ?_)
              · simp [go_sem, hHeld2]
              clear hK K' hHeld2
              refine tK (i := 5) (d := some 54) (v := ?_) rfl rfl (fun _ _ _ h => h) (Or.inl ⟨by rfl, ?_⟩) (by assumption) ?_
              rotate_left 1
              · (intro w hSw; (try dsimp only at hSw); go_simp) <;> (with_reducible rfl)
              (try simp only [Act.put, List.setIfInBounds_toArray, List.set_cons_zero, List.set_cons_succ])
              refine tK (i := 7) (d := some 56) (v := ?_) rfl rfl (fun _ _ _ h => h) (Or.inl ⟨by rfl, ?_⟩) (by assumption) ?_
              rotate_left 1
              · (intro w hSw; (try dsimp only at hSw); go_simp) <;> (with_reducible rfl)
              (try simp only [Act.put, List.setIfInBounds_toArray, List.set_cons_zero, List.set_cons_succ])
              refine stepL (i := 8) (by kernel_rfl) rfl (fun K' hK => ?_)
              go_simp
              refine hK.out _ _ ?_ (fun hHeld4 => ?_)
              · simp [go_sem, hHeld3]
              clear hK K' hHeld3
              clear hHeld4
              generalize hV : (World.alloc (World.alloc zc.wd _) _) = V
              have hVs : SinceOf z1.wd V := by rw [← hV]; (repeat (with_reducible first | exact Sr _ | assumption | refine Sa ?_ _ | refine Sd ?_ | refine Sn ?_ _ | refine Se ?_ _ | refine Sf ?_ _ | refine Sc ?_ (by first | exact Nat.le_refl _ | (simp; done) | omega | (simp; omega)) _))
              have hcV : V.heap[z1.wd.heap.size]? = some (Obj.cells #[.pointer none] 89 (0, 0)) := by
                rw [← hV]
                apply heapMade
                · (repeat (with_reducible first | exact Sr _ | assumption | refine Sa ?_ _ | refine Sd ?_ | refine Sn ?_ _ | refine Se ?_ _ | refine Sf ?_ _ | refine Sc ?_ (by first | exact Nat.le_refl _ | (simp; done) | omega | (simp; omega)) _))
                · first | rfl | (simp; done) | (simp; omega)
              have ct0 := cell_of (i := 0) hcV rfl
              have ctf := free_of hcV 0
              refine lastL (i := 10) (by kernel_rfl) (by rfl) rfl (fun K' hK => ?_)
              go_simp
              refine hK.out _ _ ?_
              clear hK K'
              refine doneL (by kernel_rfl) ?_ _
              go_wp2_with fail
              go_meet
              apply apLeafS
              · refine SinceOf.setCell (SinceOf.trans (?_ : SinceOf _ z1.wd) hVs) (by first | omega | (simp; done) | (simp; omega)) _
                (repeat (with_reducible first | exact Sr _ | assumption | refine Sa ?_ _ | refine Sd ?_ | refine Sn ?_ _ | refine Se ?_ _ | refine Sf ?_ _ | refine Sc ?_ (by first | exact Nat.le_refl _ | (simp; done) | omega | (simp; omega)) _))
              · exact hcV
              · rw [← hV]
                apply heapMade
                · (repeat (with_reducible first | exact Sr _ | assumption | refine Sa ?_ _ | refine Sd ?_ | refine Sn ?_ _ | refine Se ?_ _ | refine Sf ?_ _ | refine Sc ?_ (by first | exact Nat.le_refl _ | (simp; done) | omega | (simp; omega)) _))
                · first | omega | (simp; done) | (simp; omega)
              · rw [← hV]
                exact hdo.of Sx
              · rw [← hV]
                exact (hcals.base_le (by first | omega | (simp; done) | (simp; omega))).of Sx
              · rw [← hV]
                exact (hrows.base_le (by first | omega | (simp; done) | (simp; omega))).of Sx
              · first | omega | (simp; done) | (simp; omega)
              · first | omega | (simp; done) | (simp; omega)
              · rw [← hV]
                first | omega | (simp; done) | (simp; omega)
              · exact hers
            · refine step_make_owns (by rfl) (.tmp 52) (.tmp 52) 40 (by rfl) encB_len false b0i _ 1 Tryz.underlying40 BI.out.1 BI.out.2.1 BI.out.2.2.1 BI.out.2.2.2 rfl (by omega) (base := w.heap.size + 2) L.length L.length (by rfl) (by rfl) (Nat.le_refl _) (by omega) (by unfold maxLen; omega) (by first | omega | (simp; done) | (simp; omega)) ?_
              intro dcs hdo
              (try simp only [World.size_alloc, World.size_drew] at hdo)
              replace hdo : Owns encB 1 (w.heap.size + 2) 4 ((z1.wd.alloc (.cells #[.pointer none] 89)).alloc (.cells dcs 4)) _ _ _ := hdo
              refine hK.out _ _ ?_ (fun hHeld2 => ?_)
              · simp [go_sem, hHeld1]
              clear hK K' hHeld1
              refine stepL (i := 1) (by kernel_rfl) rfl (fun K' hK => ?_)
              go_simp
              refine (CP _ Sx).mono ?_
              rintro e _ ⟨s2, rfl, hers, hcals, hrows, ⟨zc, rfl⟩⟩
              have hzc := zc.size
              (try simp at hzc)
              go_wp2_with fail
              refine hK.out _ _ ?_ (fun hHeld3 => ?_)
              · simp [go_sem, hHeld2]
              clear hK K' hHeld2
              refine tK (i := 5) (d := some 54) (v := ?_) rfl rfl (fun _ _ _ h => h) (Or.inl ⟨by rfl, ?_⟩) (by assumption) ?_
              rotate_left 1
              · (intro w hSw; (try dsimp only at hSw); go_simp) <;> (with_reducible rfl)
              (try simp only [Act.put, List.setIfInBounds_toArray, List.set_cons_zero, List.set_cons_succ])
              refine tK (i := 7) (d := some 56) (v := ?_) rfl rfl (fun _ _ _ h => h) (Or.inl ⟨by rfl, ?_⟩) (by assumption) ?_
              rotate_left 1
              · (intro w hSw; (try dsimp only at hSw); go_simp) <;> (with_reducible rfl)
              (try simp only [Act.put, List.setIfInBounds_toArray, List.set_cons_zero, List.set_cons_succ])
              refine stepL (i := 8) (by kernel_rfl) rfl (fun K' hK => ?_)
              go_simp
              refine hK.out _ _ ?_ (fun hHeld4 => ?_)
              · simp [go_sem, hHeld3]
              clear hK K' hHeld3
              clear hHeld4
              generalize hV : (World.alloc zc.wd _) = V
              have hVs : SinceOf z1.wd V := by rw [← hV]; (repeat (with_reducible first | exact Sr _ | assumption | refine Sa ?_ _ | refine Sd ?_ | refine Sn ?_ _ | refine Se ?_ _ | refine Sf ?_ _ | refine Sc ?_ (by first | exact Nat.le_refl _ | (simp; done) | omega | (simp; omega)) _))
              have hcV : V.heap[z1.wd.heap.size]? = some (Obj.cells #[.pointer none] 89 (0, 0)) := by
                rw [← hV]
                apply heapMade
                · (repeat (with_reducible first | exact Sr _ | assumption | refine Sa ?_ _ | refine Sd ?_ | refine Sn ?_ _ | refine Se ?_ _ | refine Sf ?_ _ | refine Sc ?_ (by first | exact Nat.le_refl _ | (simp; done) | omega | (simp; omega)) _))
                · first | rfl | (simp; done) | (simp; omega)
              have ct0 := cell_of (i := 0) hcV rfl
              have ctf := free_of hcV 0
              refine lastL (i := 10) (by kernel_rfl) (by rfl) rfl (fun K' hK => ?_)
              go_simp
              refine hK.out _ _ ?_
              clear hK K'
              refine doneL (by kernel_rfl) ?_ _
              go_wp2_with fail
              go_meet
              apply apLeafS
              · refine SinceOf.setCell (SinceOf.trans (?_ : SinceOf _ z1.wd) hVs) (by first | omega | (simp; done) | (simp; omega)) _
                (repeat (with_reducible first | exact Sr _ | assumption | refine Sa ?_ _ | refine Sd ?_ | refine Sn ?_ _ | refine Se ?_ _ | refine Sf ?_ _ | refine Sc ?_ (by first | exact Nat.le_refl _ | (simp; done) | omega | (simp; omega)) _))
              · exact hcV
              · rw [← hV]
                apply heapMade
                · (repeat (with_reducible first | exact Sr _ | assumption | refine Sa ?_ _ | refine Sd ?_ | refine Sn ?_ _ | refine Se ?_ _ | refine Sf ?_ _ | refine Sc ?_ (by first | exact Nat.le_refl _ | (simp; done) | omega | (simp; omega)) _))
                · first | omega | (simp; done) | (simp; omega)
              · rw [← hV]
                exact hdo.of Sx
              · rw [← hV]
                exact (hcals.base_le (by first | omega | (simp; done) | (simp; omega))).of Sx
              · rw [← hV]
                exact (hrows.base_le (by first | omega | (simp; done) | (simp; omega))).of Sx
              · first | omega | (simp; done) | (simp; omega)
              · first | omega | (simp; done) | (simp; omega)
              · rw [← hV]
                first | omega | (simp; done) | (simp; omega)
              · exact hers
        case rest =>
          obtain ⟨ct, g, x0, rfl, hap, hsz, hx1, hx2, hx3, hx4, hx5, hsi⟩ := hcut
          obtain ⟨i0, ii, iz0, iz1, iz2⟩ := info_parts infoJob
          have HI := Lib.hid (And.intro ii (And.intro iz0 (And.intro iz1 iz2)))
          have H0 := Lib.hid (And.intro hap (And.intro hsz (And.intro hx1 (And.intro hx2 (And.intro hx3 (And.intro hx4 (And.intro hx5 hsi)))))))
          clear hap hsz hx1 hx2 hx3 hx4 hx5 hsi CP ii iz0 iz1 iz2
          go_wp2_with fail
          go_loopg [60] L.length (fun gas s60 wr => ∃ (k : Nat) (x : StR), k ≤ L.length ∧ L.length - k ≤ gas ∧ s60 = .int .i64 k ∧ ApAt wr (w.heap.size + 2) ct g now x ∧ w.heap.size + 2 ≤ wr.heap.size ∧ erS x.s = erS ⟨sA, sc, cals, sB, sd, R, most⟩ ∧ erL x.L = (erL L).take k ∧ x.bg = [] ∧ x.pd = [] ∧ x.dr = List.replicate L.length false ∧ SinceOf ((w.alloc (.cells #[.slice sA cals.length sc, .slice sB R.length sd, .int .i64 most] 37)).alloc (.cells #[.slice none 0 0, .slice none 0 0, .int .i64 0, .slice none 0 0, .slice none 0 0, .slice none 0 0, .slice none 0 0] 42)) wr)
          case atStart => exact ⟨0, x0, by omega, by omega, rfl, H0.out.1, H0.out.2.1, H0.out.2.2.1, by rw [H0.out.2.2.2.1]; simp [erL], H0.out.2.2.2.2.1, H0.out.2.2.2.2.2.1, H0.out.2.2.2.2.2.2.1, H0.out.2.2.2.2.2.2.2⟩
          case round =>
            clear H0
            obtain ⟨k, x, hk, hgas, rfl, hap, hsz, hx1, hx2, hx3, hx4, hx5, hsi⟩ := hrel
            have hsw : SinceOf w wr := (show SinceOf w ((w.alloc (.cells #[.slice sA cals.length sc, .slice sB R.length sd, .int .i64 most] 37)).alloc (.cells #[.slice none 0 0, .slice none 0 0, .int .i64 0, .slice none 0 0, .slice none 0 0, .slice none 0 0, .slice none 0 0] 42)) from Sx).trans hsi
            by_cases hlt : k < L.length
            · have hj := HW.out.2.1.of hsw
              have hji := hj.all _ (List.getElem_mem hlt)
              have hml := HW.out.2.2.2.2.2.ms _ (List.getElem_mem hlt)
              obtain ⟨gj, off, rfl, hr⟩ := hj.row.at_ (by omega)
              have hOj := hr.there
              have j0 := hr.j0 k hlt
              have j1 := hr.j1 k hlt
              have j2 := hr.j2 k hlt
              have j3 := hr.j3 k hlt
              have j4 := hr.j4 k hlt
              have j5 := hr.j5 k hlt
              obtain ⟨jj, hjj⟩ : ∃ jj, jj = L[k] := ⟨_, rfl⟩
              rw [← hjj] at j0 j1 j2 j3 j4 j5 hml hji
              have CN := fun W (hW : SinceOf wr W) => cloneN_any jj.A jj.c jj.ms W (hji.1.of hW) (by omega)
              have hts : (erL L).take (k + 1) = (erL L).take k ++ [erJ jj] := by rw [hjj]; unfold erL; rw [List.take_succ_eq_append_getElem (by simpa using hlt)]; simp
              obtain ⟨jA, jc, ms, du, cl, re, de, od⟩ := jj
              simp only at j0 j1 j2 j3 j4 j5 hml CN
              have hxl : x.L.length ≤ 40 := by have := congrArg List.length hx2; simp [erL] at this; omega
              have HX := Lib.hid (And.intro hap (And.intro hsz (And.intro hx1 (And.intro hx2 (And.intro hx3 (And.intro hx4 (And.intro hx5 (And.intro hsi (And.intro hsw (And.intro hjj hts))))))))))
              clear hx1 hx2 hx3 hx4 hx5 hsi hsw hjj hts hap hj hji hr
              go_wp2_with fail
              refine (CN _ Sx).mono ?_
              rintro e _ ⟨A1, c1, rfl, hA1, ⟨z3, rfl⟩⟩
              go_wp2_with fail
              have hz3 := z3.size
              (try simp at hz3)
              obtain ⟨V, hV⟩ : ∃ V, V = z3.wd.setCell ⟨wr.heap.size, 0, none⟩ (.slice A1 ms.length c1) := ⟨_, rfl⟩
              rw [← hV]
              have hVs : SinceOf wr V := by rw [hV]; (repeat (with_reducible first | exact Sr _ | assumption | refine Sa ?_ _ | refine Sd ?_ | refine Sn ?_ _ | refine Se ?_ _ | refine Sf ?_ _ | refine Sc ?_ (by first | exact Nat.le_refl _ | (simp; done) | omega | (simp; omega)) _))
              have hAV := HX.out.1.of hVs
              have hCV := hAV.ch
              have v0 : V.cell? ⟨wr.heap.size, 0, none⟩ = some (.slice A1 ms.length c1) := by rw [hV]; simp [go_sem]
              have v1 : V.cell? ⟨wr.heap.size, 1, none⟩ = some (.int .i64 du) := by rw [hV]; simp [go_sem]
              have v2 : V.cell? ⟨wr.heap.size, 2, none⟩ = some (.int .i64 cl) := by rw [hV]; simp [go_sem]
              have v3 : V.cell? ⟨wr.heap.size, 3, none⟩ = some (.int .i64 re) := by rw [hV]; simp [go_sem]
              have v4 : V.cell? ⟨wr.heap.size, 4, none⟩ = some (.int .i64 de) := by rw [hV]; simp [go_sem]
              have v5 : V.cell? ⟨wr.heap.size, 5, none⟩ = some (.int .i64 od) := by rw [hV]; simp [go_sem]
              have hzV : wr.heap.size < V.heap.size := by rw [hV]; simp; omega
              have hms1 : Owns encN 1 (w.heap.size + 2) 3 V A1 c1 ms := by
                rw [hV]
                refine (hA1.setNe (fun b hb e => ?_)).base_le ?_
                · have := (hA1.below b hb).1
                  simp at this
                  omega
                · simp; omega
              have hbx := HX.out.1.ch.jobs.below
              obtain ⟨⟨xsA, xsc, xcals, xsB, xsd, xR, xmost⟩, xA, xc, xL, gA, gc, bg, pA, pc, pd, dA, dc, dr⟩ := x
              simp only at hbx hxl
              have hct := hAV.c
              have hOct := hAV.old
              have hOg := hCV.old
              have hOtV : Nonempty (Old V wr.heap.size) := ⟨⟨hzV⟩⟩
              have g3 := hCV.c3
              simp only at g3
              have hnt : some wr.heap.size ≠ blockOf xA := fun e => by
                have := (hbx _ e.symm).2
                omega
              have hnct : some ct ≠ blockOf xA := fun e => by
                obtain ⟨cur, hc⟩ := hCV.jobs.typed ct e.symm
                have h2 := hAV.cell
                rw [h2] at hc
                injection hc with hc
                injection hc with h3 h4
                exact absurd h4 (by decide)
              have HC := Lib.hid (And.intro hAV (And.intro hms1 hVs))
              have hszV : w.heap.size + 2 ≤ V.heap.size := by have := HX.out.2.1; omega
              clear hV hAV hCV hms1 hVs hA1 j0 j1 j2 j3 j4 j5 hbx
              refine regionL [12] (S := (fun w' => w'.cell? ⟨ct, 0, none⟩ = some (.pointer (some ⟨g, 0, none⟩)) ∧ w'.cell? ⟨g, 3, none⟩ = some (.slice xA xL.length xc) ∧ w'.cell? ⟨wr.heap.size, 0, none⟩ = some (.slice A1 ms.length c1) ∧ w'.cell? ⟨wr.heap.size, 1, none⟩ = some (.int .i64 du) ∧ w'.cell? ⟨wr.heap.size, 2, none⟩ = some (.int .i64 cl) ∧ w'.cell? ⟨wr.heap.size, 3, none⟩ = some (.int .i64 re) ∧ w'.cell? ⟨wr.heap.size, 4, none⟩ = some (.int .i64 de) ∧ w'.cell? ⟨wr.heap.size, 5, none⟩ = some (.int .i64 od))) (by kernel_rfl) ?_ (fun hHeld0 => ?_)
              · simp [go_sem, *]
              refine tK (i := 0) (d := some 68) (v := ?_) rfl rfl (fun _ _ _ h => h) (Or.inl ⟨by rfl, ?_⟩) (by assumption) ?_
              rotate_left 1
              · (intro w hSw; (try dsimp only at hSw); go_simp) <;> (with_reducible rfl)
              (try simp only [Act.put, List.setIfInBounds_toArray, List.set_cons_zero, List.set_cons_succ])
              refine tK (i := 1) (d := some 69) (v := ?_) rfl rfl (fun _ _ _ h => h) (Or.inl ⟨by rfl, ?_⟩) (by assumption) ?_
              rotate_left 1
              · (intro w hSw; (try dsimp only at hSw); go_simp) <;> (with_reducible rfl)
              (try simp only [Act.put, List.setIfInBounds_toArray, List.set_cons_zero, List.set_cons_succ])
              refine tK (i := 2) (d := some 70) (v := ?_) rfl rfl (fun _ _ _ h => h) (Or.inl ⟨by rfl, ?_⟩) (by assumption) ?_
              rotate_left 1
              · (intro w hSw; (try dsimp only at hSw); go_simp) <;> (with_reducible rfl)
              (try simp only [Act.put, List.setIfInBounds_toArray, List.set_cons_zero, List.set_cons_succ])
              refine tK (i := 3) (d := some 71) (v := ?_) rfl rfl (fun _ _ _ h => h) (Or.inl ⟨by rfl, ?_⟩) (by assumption) ?_
              rotate_left 1
              · (intro w hSw; (try dsimp only at hSw); go_simp) <;> (with_reducible rfl)
              (try simp only [Act.put, List.setIfInBounds_toArray, List.set_cons_zero, List.set_cons_succ])
              refine tK (i := 4) (d := some 72) (v := ?_) rfl rfl (fun _ _ _ h => h) (Or.inl ⟨by rfl, ?_⟩) (by assumption) ?_
              rotate_left 1
              · (intro w hSw; (try dsimp only at hSw); go_simp) <;> (with_reducible rfl)
              (try simp only [Act.put, List.setIfInBounds_toArray, List.set_cons_zero, List.set_cons_succ])
              refine tK (i := 5) (d := some 73) (v := ?_) rfl rfl (fun _ _ _ h => h) (Or.inl ⟨by rfl, ?_⟩) (by assumption) ?_
              rotate_left 1
              · (intro w hSw; (try dsimp only at hSw); go_simp) <;> (with_reducible rfl)
              (try simp only [Act.put, List.setIfInBounds_toArray, List.set_cons_zero, List.set_cons_succ])
              refine tK (i := 6) (d := some 74) (v := ?_) rfl rfl (fun _ _ _ h => h) (Or.inl ⟨by rfl, ?_⟩) (by assumption) ?_
              rotate_left 1
              · (intro w hSw; (try dsimp only at hSw); go_simp) <;> (with_reducible rfl)
              (try simp only [Act.put, List.setIfInBounds_toArray, List.set_cons_zero, List.set_cons_succ])
              refine stepL (i := 7) (by kernel_rfl) rfl (fun K' hK => ?_)
              go_simp
              refine hK.out _ _ ?_ (fun hHeld1 => ?_)
              · simp [go_sem, *]
              clear hK K' hHeld0
              refine stepL (i := 8) (by kernel_rfl) rfl (fun K' hK => ?_)
              have rJ : IsRow encJ 6 (V.drew.alloc (.cells #[.slice A1 ms.length c1, .int .i64 du, .int .i64 cl, .int .i64 re, .int .i64 de, .int .i64 od] 85)) (some ⟨(V.drew).heap.size, 0, none⟩) 1 [(⟨A1, c1, ms, du, cl, re, de, od⟩ : JobR)] := (rowJ_at (V.drew) _ ⟨A1, c1, ms, du, cl, re, de, od⟩ 85 rfl).of Sx
              (try simp only [World.size_alloc, World.size_drew] at rJ)
              refine step_append_row (by rfl) (.tmp 73) (.tmp 75) 38 (by rfl) encJ_len (by omega) encJ_one i0 _ 64 Tryz.underlying38 HI.out.1 HI.out.2.1 HI.out.2.2.1 HI.out.2.2.2 rfl (l := xL) (A := xA) (c := xc) (base := w.heap.size + 2) rfl (HC.out.1.ch.jobs.of Sx) (m := [⟨A1, c1, ms, du, cl, re, de, od⟩]) (by rfl) rJ (by unfold maxLen; simp; omega) (by simp; omega) (by first | omega | (simp; omega)) ?_
              intro A3 c3 w4 ho4 hgr4 hb4
              have hs4a := HC.out.1.of (show SinceOf V (V.drew.alloc (.cells #[.slice A1 ms.length c1, .int .i64 du, .int .i64 cl, .int .i64 re, .int .i64 de, .int .i64 od] 85)) from Sx)
              have SBj := SameBut.grown (es := [85]) hgr4 (fun g5 hg5 => by obtain ⟨cur, hc⟩ := hs4a.ch.jobs.typed g5 hg5; exact ⟨cur, _, _, List.mem_singleton.2 rfl, hc⟩)
              have hgc4 := SBj g _ _ _ (by simp) hs4a.ch.cell
              have hct4 := SBj ct _ _ _ (by simp) hs4a.cell
              have hO4 : Nonempty (Old w4 g) := ⟨⟨heap_lt hgc4⟩⟩
              have hOc4 : Nonempty (Old w4 ct) := ⟨⟨heap_lt hct4⟩⟩
              have fg3 := free_of hgc4 3
              have cg3 := cell_of (i := 3) hgc4 rfl
              have hz4 := hgr4.size
              (try simp at hz4)
              refine hK.out _ _ ⟨cell_of (i := 0) hct4 rfl, cg3, hgr4.cell hHeld1.2.2.1 hnt, hgr4.cell hHeld1.2.2.2.1 hnt, hgr4.cell hHeld1.2.2.2.2.1 hnt, hgr4.cell hHeld1.2.2.2.2.2.1 hnt, hgr4.cell hHeld1.2.2.2.2.2.2.1 hnt, hgr4.cell hHeld1.2.2.2.2.2.2.2 hnt⟩ (fun hHeld2 => ?_)
              clear hK K' hHeld1
              refine tK (i := 9) (d := some 77) (v := ?_) rfl rfl (fun _ _ _ h => h) (Or.inl ⟨by rfl, ?_⟩) (by assumption) ?_
              rotate_left 1
              · (intro w hSw; (try dsimp only at hSw); go_simp) <;> (with_reducible rfl)
              (try simp only [Act.put, List.setIfInBounds_toArray, List.set_cons_zero, List.set_cons_succ])
              refine tK (i := 10) (d := some 78) (v := ?_) rfl rfl (fun _ _ _ h => h) (Or.inl ⟨by rfl, ?_⟩) (by assumption) ?_
              rotate_left 1
              · (intro w hSw; (try dsimp only at hSw); go_simp) <;> (with_reducible rfl)
              (try simp only [Act.put, List.setIfInBounds_toArray, List.set_cons_zero, List.set_cons_succ])
              refine tK (i := 11) (d := some 79) (v := ?_) rfl rfl (fun _ _ _ h => h) (Or.inl ⟨by rfl, ?_⟩) (by assumption) ?_
              rotate_left 1
              · (intro w hSw; (try dsimp only at hSw); go_simp) <;> (with_reducible rfl)
              (try simp only [Act.put, List.setIfInBounds_toArray, List.set_cons_zero, List.set_cons_succ])
              refine lastL (i := 12) (by kernel_rfl) (by rfl) rfl (fun K' hK => ?_)
              go_simp
              refine hK.out _ _ ?_
              clear hK K'
              refine doneL (by kernel_rfl) ?_ _
              go_wp2_with fail
              go_roundg (L.length - (k + 1))
              case measure => omega
              case rel =>
                have hJJ : ApAt (w4.setCell ⟨g, 3, none⟩ (.slice A3 (xL ++ [(⟨A1, c1, ms, du, cl, re, de, od⟩ : JobR)]).length c3)) (w.heap.size + 2) ct g now ⟨⟨xsA, xsc, xcals, xsB, xsd, xR, xmost⟩, A3, c3, xL ++ [⟨A1, c1, ms, du, cl, re, de, od⟩], gA, gc, bg, pA, pc, pd, dA, dc, dr⟩ := by
                  refine ⟨hs4a.ch.pushJob (j := ⟨A1, c1, ms, du, cl, re, de, od⟩) (HC.out.2.1.of Sx) hml ho4 hgr4, hs4a.ctb, ?_⟩
                  exact SameBut.set (es := [92]) ⟨_, _, _, List.mem_singleton.2 rfl, hgc4⟩ ct _ _ _ (by simp) hct4
                rw [List.length_append] at hJJ
                refine ⟨k + 1, ⟨⟨xsA, xsc, xcals, xsB, xsd, xR, xmost⟩, A3, c3, xL ++ [⟨A1, c1, ms, du, cl, re, de, od⟩], gA, gc, bg, pA, pc, pd, dA, dc, dr⟩, hlt, Nat.le_refl _, by go_num, hJJ, ?_, HX.out.2.2.1, ?_, HX.out.2.2.2.2.1, HX.out.2.2.2.2.2.1, HX.out.2.2.2.2.2.2.1, ?_⟩
                · simp; omega
                · rw [HX.out.2.2.2.2.2.2.2.2.2.2, ← HX.out.2.2.2.1]; unfold erL; rw [List.map_append]; rfl
                · refine SinceOf.setCell (SinceOf.grown (HX.out.2.2.2.2.2.2.2.1.trans (HC.out.2.2.trans Sx)) hgr4 (fun q hq => ?_)) ?_ _
                  · have := (hs4a.ch.jobs.below q hq).1
                    simp
                    omega
                  · have := hs4a.ch.base
                    simp
                    omega
            · have hkl : k = L.length := by omega
              have hx6 : erL x.L = erL L := by rw [hx2, hkl, List.take_of_length_le (by simp [erL])]
              have H1 := Lib.hid (And.intro hap (And.intro hsz (And.intro hx1 (And.intro hx6 (And.intro hx3 (And.intro hx4 (And.intro hx5 hsi)))))))
              obtain ⟨s0i, si, sz0, sz1, sz2⟩ := info_parts infoSlot
              have SI := Lib.hid (And.intro si (And.intro sz0 (And.intro sz1 sz2)))
              clear hap hsz hx1 hx2 hx3 hx4 hx5 hsi hsw hx6 hkl si sz0 sz1 sz2 HI
              go_wp2_with fail
              go_loopg [83] plan.length (fun gas s83 wr => ∃ (k : Nat) (x : StR), k ≤ plan.length ∧ plan.length - k ≤ gas ∧ s83 = .int .i64 k ∧ ApAt wr (w.heap.size + 2) ct g now x ∧ w.heap.size + 2 ≤ wr.heap.size ∧ erS x.s = erS ⟨sA, sc, cals, sB, sd, R, most⟩ ∧ erL x.L = erL L ∧ x.bg = (plan.take k).filter (fun y => decide (y.start < now)) ∧ x.pd = (plan.take k).filter (fun y => !decide (y.start < now)) ∧ x.dr = List.replicate L.length false ∧ SinceOf ((w.alloc (.cells #[.slice sA cals.length sc, .slice sB R.length sd, .int .i64 most] 37)).alloc (.cells #[.slice none 0 0, .slice none 0 0, .int .i64 0, .slice none 0 0, .slice none 0 0, .slice none 0 0, .slice none 0 0] 42)) wr)
              case atStart => exact ⟨0, x, by omega, by omega, rfl, H1.out.1, H1.out.2.1, H1.out.2.2.1, H1.out.2.2.2.1, H1.out.2.2.2.2.1, H1.out.2.2.2.2.2.1, H1.out.2.2.2.2.2.2.1, H1.out.2.2.2.2.2.2.2⟩
              case round =>
                clear H1
                obtain ⟨k2, x2, hk2, hgas2, rfl, hap, hsz, hx1, hx2, hx3, hx4, hx5, hsi⟩ := hrel
                have hsw : SinceOf w wr := (show SinceOf w ((w.alloc (.cells #[.slice sA cals.length sc, .slice sB R.length sd, .int .i64 most] 37)).alloc (.cells #[.slice none 0 0, .slice none 0 0, .int .i64 0, .slice none 0 0, .slice none 0 0, .slice none 0 0, .slice none 0 0] 42)) from Sx).trans hsi
                by_cases hlt2 : k2 < plan.length
                · have hj := HW.out.2.2.1.of hsw
                  obtain ⟨gj, off, rfl, hr⟩ := hj.at_ (by omega)
                  have hOj := hr.there
                  have s0 := hr.s0 k2 hlt2
                  have s1 := hr.s1 k2 hlt2
                  have s2 := hr.s2 k2 hlt2
                  have s3 := hr.s3 k2 hlt2
                  have hts := List.take_succ_eq_append_getElem hlt2
                  obtain ⟨⟨yj, ym, ys, ye⟩, hy⟩ : ∃ y, y = plan[k2] := ⟨_, rfl⟩
                  rw [← hy] at s0 s1 s2 s3 hts
                  simp only at s0 s1 s2 s3
                  have hxl : x2.bg.length ≤ 1000000 ∧ x2.pd.length ≤ 1000000 := by
                    rw [hx3, hx4]
                    have a1 := List.length_filter_le (fun y : SlotR => decide (y.start < now)) (plan.take k2)
                    have a2 := List.length_filter_le (fun y : SlotR => !decide (y.start < now)) (plan.take k2)
                    rw [List.length_take] at a1 a2
                    omega
                  have HX := Lib.hid (And.intro hap (And.intro hsz (And.intro hx1 (And.intro hx2 (And.intro hx3 (And.intro hx4 (And.intro hx5 (And.intro hsi (And.intro hsw (And.intro hy hts))))))))))
                  clear hx1 hx2 hx3 hx4 hx5 hsi hsw hy hts hap hj hr
                  by_cases hc : ys < now
                  · have hcb : decide (ys < now) = true := decide_eq_true hc
                    go_wp2_with fail
                    obtain ⟨V, hV⟩ : ∃ V, V = wr.alloc (.cells #[.int .i64 yj, .int .i64 ym, .int .i64 ys, .int .i64 ye] 76) := ⟨_, rfl⟩
                    rw [← hV]
                    have hVs : SinceOf wr V := by rw [hV]; (repeat (with_reducible first | exact Sr _ | assumption | refine Sa ?_ _ | refine Sd ?_ | refine Sn ?_ _ | refine Se ?_ _ | refine Sf ?_ _ | refine Sc ?_ (by first | exact Nat.le_refl _ | (simp; done) | omega | (simp; omega)) _))
                    have hAV := HX.out.1.of hVs
                    have hCV := hAV.ch
                    have v0 : V.cell? ⟨wr.heap.size, 0, none⟩ = some (.int .i64 yj) := by rw [hV]; simp [go_sem]
                    have v1 : V.cell? ⟨wr.heap.size, 1, none⟩ = some (.int .i64 ym) := by rw [hV]; simp [go_sem]
                    have v2 : V.cell? ⟨wr.heap.size, 2, none⟩ = some (.int .i64 ys) := by rw [hV]; simp [go_sem]
                    have v3 : V.cell? ⟨wr.heap.size, 3, none⟩ = some (.int .i64 ye) := by rw [hV]; simp [go_sem]
                    have hzV : wr.heap.size < V.heap.size := by rw [hV]; simp
                    have hbx := HX.out.1.ch.bg.below
                    obtain ⟨⟨xsA, xsc, xcals, xsB, xsd, xR, xmost⟩, xA, xc, xL, gA, gc, bg, pA, pc, pd, dA, dc, dr⟩ := x2
                    simp only at hbx hxl
                    have hct := hAV.c
                    have hOct := hAV.old
                    have hOg := hCV.old
                    have hOtV : Nonempty (Old V wr.heap.size) := ⟨⟨hzV⟩⟩
                    have g3 := hCV.c4
                    simp only at g3
                    have hnt : some wr.heap.size ≠ blockOf gA := fun e => by
                      have := (hbx _ e.symm).2
                      omega
                    have HC := Lib.hid (And.intro hAV hVs)
                    have hszV : w.heap.size + 2 ≤ V.heap.size := by have := HX.out.2.1; omega
                    clear hV hAV hCV hVs s0 s1 s2 s3 hbx
                    refine regionL [12] (S := (fun w' => w'.cell? ⟨ct, 0, none⟩ = some (.pointer (some ⟨g, 0, none⟩)) ∧ w'.cell? ⟨g, 4, none⟩ = some (.slice gA bg.length gc) ∧ w'.cell? ⟨wr.heap.size, 0, none⟩ = some (.int .i64 yj) ∧ w'.cell? ⟨wr.heap.size, 1, none⟩ = some (.int .i64 ym) ∧ w'.cell? ⟨wr.heap.size, 2, none⟩ = some (.int .i64 ys) ∧ w'.cell? ⟨wr.heap.size, 3, none⟩ = some (.int .i64 ye))) (by kernel_rfl) ?_ (fun hHeld0 => ?_)
                    · simp [go_sem, *]
                    refine tK (i := 0) (d := some 91) (v := ?_) rfl rfl (fun _ _ _ h => h) (Or.inl ⟨by rfl, ?_⟩) (by assumption) ?_
                    rotate_left 1
                    · (intro w hSw; (try dsimp only at hSw); go_simp) <;> (with_reducible rfl)
                    (try simp only [Act.put, List.setIfInBounds_toArray, List.set_cons_zero, List.set_cons_succ])
                    refine tK (i := 1) (d := some 92) (v := ?_) rfl rfl (fun _ _ _ h => h) (Or.inl ⟨by rfl, ?_⟩) (by assumption) ?_
                    rotate_left 1
                    · (intro w hSw; (try dsimp only at hSw); go_simp) <;> (with_reducible rfl)
                    (try simp only [Act.put, List.setIfInBounds_toArray, List.set_cons_zero, List.set_cons_succ])
                    refine tK (i := 2) (d := some 93) (v := ?_) rfl rfl (fun _ _ _ h => h) (Or.inl ⟨by rfl, ?_⟩) (by assumption) ?_
                    rotate_left 1
                    · (intro w hSw; (try dsimp only at hSw); go_simp) <;> (with_reducible rfl)
                    (try simp only [Act.put, List.setIfInBounds_toArray, List.set_cons_zero, List.set_cons_succ])
                    refine tK (i := 3) (d := some 94) (v := ?_) rfl rfl (fun _ _ _ h => h) (Or.inl ⟨by rfl, ?_⟩) (by assumption) ?_
                    rotate_left 1
                    · (intro w hSw; (try dsimp only at hSw); go_simp) <;> (with_reducible rfl)
                    (try simp only [Act.put, List.setIfInBounds_toArray, List.set_cons_zero, List.set_cons_succ])
                    refine tK (i := 4) (d := some 95) (v := ?_) rfl rfl (fun _ _ _ h => h) (Or.inl ⟨by rfl, ?_⟩) (by assumption) ?_
                    rotate_left 1
                    · (intro w hSw; (try dsimp only at hSw); go_simp) <;> (with_reducible rfl)
                    (try simp only [Act.put, List.setIfInBounds_toArray, List.set_cons_zero, List.set_cons_succ])
                    refine tK (i := 5) (d := some 96) (v := ?_) rfl rfl (fun _ _ _ h => h) (Or.inl ⟨by rfl, ?_⟩) (by assumption) ?_
                    rotate_left 1
                    · (intro w hSw; (try dsimp only at hSw); go_simp) <;> (with_reducible rfl)
                    (try simp only [Act.put, List.setIfInBounds_toArray, List.set_cons_zero, List.set_cons_succ])
                    refine tK (i := 6) (d := some 97) (v := ?_) rfl rfl (fun _ _ _ h => h) (Or.inl ⟨by rfl, ?_⟩) (by assumption) ?_
                    rotate_left 1
                    · (intro w hSw; (try dsimp only at hSw); go_simp) <;> (with_reducible rfl)
                    (try simp only [Act.put, List.setIfInBounds_toArray, List.set_cons_zero, List.set_cons_succ])
                    refine stepL (i := 7) (by kernel_rfl) rfl (fun K' hK => ?_)
                    go_simp
                    refine hK.out _ _ ?_ (fun hHeld1 => ?_)
                    · simp [go_sem, *]
                    clear hK K' hHeld0
                    refine stepL (i := 8) (by kernel_rfl) rfl (fun K' hK => ?_)
                    have rJ : IsSlots (V.drew.alloc (.cells #[.int .i64 yj, .int .i64 ym, .int .i64 ys, .int .i64 ye] 76)) (some ⟨(V.drew).heap.size, 0, none⟩) 1 [(⟨yj, ym, ys, ye⟩ : SlotR)] := (rowS_at (V.drew) _ ⟨yj, ym, ys, ye⟩ 76 rfl).of Sx
                    (try simp only [World.size_alloc, World.size_drew] at rJ)
                    refine step_append_row (by rfl) (.tmp 96) (.tmp 98) 39 (by rfl) encS_len (by omega) encS_one s0i _ 32 Tryz.underlying39 SI.out.1 SI.out.2.1 SI.out.2.2.1 SI.out.2.2.2 rfl (l := bg) (A := gA) (c := gc) (base := w.heap.size + 2) rfl (HC.out.1.ch.bg.of Sx) (m := [⟨yj, ym, ys, ye⟩]) (by rfl) rJ (by unfold maxLen; simp; omega) (by simp; omega) (by first | omega | (simp; omega)) ?_
                    intro A3 c3 w4 ho4 hgr4 hb4
                    have hs4a := HC.out.1.of (show SinceOf V (V.drew.alloc (.cells #[.int .i64 yj, .int .i64 ym, .int .i64 ys, .int .i64 ye] 76)) from Sx)
                    have SBj := SameBut.grown (es := [76]) hgr4 (fun g5 hg5 => by obtain ⟨cur, hc⟩ := hs4a.ch.bg.typed g5 hg5; exact ⟨cur, _, _, List.mem_singleton.2 rfl, hc⟩)
                    have hgc4 := SBj g _ _ _ (by simp) hs4a.ch.cell
                    have hct4 := SBj ct _ _ _ (by simp) hs4a.cell
                    have hO4 : Nonempty (Old w4 g) := ⟨⟨heap_lt hgc4⟩⟩
                    have hOc4 : Nonempty (Old w4 ct) := ⟨⟨heap_lt hct4⟩⟩
                    have fg3 := free_of hgc4 4
                    have cg3 := cell_of (i := 4) hgc4 rfl
                    have hz4 := hgr4.size
                    (try simp at hz4)
                    refine hK.out _ _ ⟨cell_of (i := 0) hct4 rfl, cg3, hgr4.cell hHeld1.2.2.1 hnt, hgr4.cell hHeld1.2.2.2.1 hnt, hgr4.cell hHeld1.2.2.2.2.1 hnt, hgr4.cell hHeld1.2.2.2.2.2 hnt⟩ (fun hHeld2 => ?_)
                    clear hK K' hHeld1
                    refine tK (i := 9) (d := some 100) (v := ?_) rfl rfl (fun _ _ _ h => h) (Or.inl ⟨by rfl, ?_⟩) (by assumption) ?_
                    rotate_left 1
                    · (intro w hSw; (try dsimp only at hSw); go_simp) <;> (with_reducible rfl)
                    (try simp only [Act.put, List.setIfInBounds_toArray, List.set_cons_zero, List.set_cons_succ])
                    refine tK (i := 10) (d := some 101) (v := ?_) rfl rfl (fun _ _ _ h => h) (Or.inl ⟨by rfl, ?_⟩) (by assumption) ?_
                    rotate_left 1
                    · (intro w hSw; (try dsimp only at hSw); go_simp) <;> (with_reducible rfl)
                    (try simp only [Act.put, List.setIfInBounds_toArray, List.set_cons_zero, List.set_cons_succ])
                    refine tK (i := 11) (d := some 102) (v := ?_) rfl rfl (fun _ _ _ h => h) (Or.inl ⟨by rfl, ?_⟩) (by assumption) ?_
                    rotate_left 1
                    · (intro w hSw; (try dsimp only at hSw); go_simp) <;> (with_reducible rfl)
                    (try simp only [Act.put, List.setIfInBounds_toArray, List.set_cons_zero, List.set_cons_succ])
                    refine lastL (i := 12) (by kernel_rfl) (by rfl) rfl (fun K' hK => ?_)
                    go_simp
                    refine hK.out _ _ ?_
                    clear hK K'
                    refine doneL (by kernel_rfl) ?_ _
                    go_wp2_with fail
                    go_roundg (plan.length - (k2 + 1))
                    case measure => omega
                    case rel =>
                      have hJJ := hs4a.ch.pushBegun (v := ⟨yj, ym, ys, ye⟩) ho4 hgr4 hb4
                      have hcc := SameBut.set (es := [92]) (i := 4) (u := .slice A3 (bg ++ [(⟨yj, ym, ys, ye⟩ : SlotR)]).length c3) ⟨_, _, _, List.mem_singleton.2 rfl, hgc4⟩ ct _ _ _ (by simp) hct4
                      rw [List.length_append] at hJJ hcc
                      refine ⟨k2 + 1, _, hlt2, Nat.le_refl _, by go_num, ⟨hJJ, hs4a.ctb, hcc⟩, ?_, HX.out.2.2.1, HX.out.2.2.2.1, ?_, ?_, HX.out.2.2.2.2.2.2.1, ?_⟩
                      · simp; omega
                      · rw [HX.out.2.2.2.2.2.2.2.2.2.2, List.filter_append, ← HX.out.2.2.2.2.1]; simp [hcb]
                      · rw [HX.out.2.2.2.2.2.2.2.2.2.2, List.filter_append, ← HX.out.2.2.2.2.2.1]; simp [hcb]
                      · refine SinceOf.setCell (SinceOf.grown (HX.out.2.2.2.2.2.2.2.1.trans (HC.out.2.trans Sx)) hgr4 (fun q hq => ?_)) ?_ _
                        · have := (hs4a.ch.bg.below q hq).1
                          simp
                          omega
                        · have := hs4a.ch.base
                          simp
                          omega
                  · have hcb : decide (ys < now) = false := decide_eq_false hc
                    go_wp2_with fail
                    obtain ⟨V, hV⟩ : ∃ V, V = wr.alloc (.cells #[.int .i64 yj, .int .i64 ym, .int .i64 ys, .int .i64 ye] 76) := ⟨_, rfl⟩
                    rw [← hV]
                    have hVs : SinceOf wr V := by rw [hV]; (repeat (with_reducible first | exact Sr _ | assumption | refine Sa ?_ _ | refine Sd ?_ | refine Sn ?_ _ | refine Se ?_ _ | refine Sf ?_ _ | refine Sc ?_ (by first | exact Nat.le_refl _ | (simp; done) | omega | (simp; omega)) _))
                    have hAV := HX.out.1.of hVs
                    have hCV := hAV.ch
                    have v0 : V.cell? ⟨wr.heap.size, 0, none⟩ = some (.int .i64 yj) := by rw [hV]; simp [go_sem]
                    have v1 : V.cell? ⟨wr.heap.size, 1, none⟩ = some (.int .i64 ym) := by rw [hV]; simp [go_sem]
                    have v2 : V.cell? ⟨wr.heap.size, 2, none⟩ = some (.int .i64 ys) := by rw [hV]; simp [go_sem]
                    have v3 : V.cell? ⟨wr.heap.size, 3, none⟩ = some (.int .i64 ye) := by rw [hV]; simp [go_sem]
                    have hzV : wr.heap.size < V.heap.size := by rw [hV]; simp
                    have hbx := HX.out.1.ch.pd.below
                    obtain ⟨⟨xsA, xsc, xcals, xsB, xsd, xR, xmost⟩, xA, xc, xL, gA, gc, bg, pA, pc, pd, dA, dc, dr⟩ := x2
                    simp only at hbx hxl
                    have hct := hAV.c
                    have hOct := hAV.old
                    have hOg := hCV.old
                    have hOtV : Nonempty (Old V wr.heap.size) := ⟨⟨hzV⟩⟩
                    have g3 := hCV.c5
                    simp only at g3
                    have hnt : some wr.heap.size ≠ blockOf pA := fun e => by
                      have := (hbx _ e.symm).2
                      omega
                    have HC := Lib.hid (And.intro hAV hVs)
                    have hszV : w.heap.size + 2 ≤ V.heap.size := by have := HX.out.2.1; omega
                    clear hV hAV hCV hVs s0 s1 s2 s3 hbx
                    refine regionL [12] (S := (fun w' => w'.cell? ⟨ct, 0, none⟩ = some (.pointer (some ⟨g, 0, none⟩)) ∧ w'.cell? ⟨g, 5, none⟩ = some (.slice pA pd.length pc) ∧ w'.cell? ⟨wr.heap.size, 0, none⟩ = some (.int .i64 yj) ∧ w'.cell? ⟨wr.heap.size, 1, none⟩ = some (.int .i64 ym) ∧ w'.cell? ⟨wr.heap.size, 2, none⟩ = some (.int .i64 ys) ∧ w'.cell? ⟨wr.heap.size, 3, none⟩ = some (.int .i64 ye))) (by kernel_rfl) ?_ (fun hHeld0 => ?_)
                    · simp [go_sem, *]
                    refine tK (i := 0) (d := some 103) (v := ?_) rfl rfl (fun _ _ _ h => h) (Or.inl ⟨by rfl, ?_⟩) (by assumption) ?_
                    rotate_left 1
                    · (intro w hSw; (try dsimp only at hSw); go_simp) <;> (with_reducible rfl)
                    (try simp only [Act.put, List.setIfInBounds_toArray, List.set_cons_zero, List.set_cons_succ])
                    refine tK (i := 1) (d := some 104) (v := ?_) rfl rfl (fun _ _ _ h => h) (Or.inl ⟨by rfl, ?_⟩) (by assumption) ?_
                    rotate_left 1
                    · (intro w hSw; (try dsimp only at hSw); go_simp) <;> (with_reducible rfl)
                    (try simp only [Act.put, List.setIfInBounds_toArray, List.set_cons_zero, List.set_cons_succ])
                    refine tK (i := 2) (d := some 105) (v := ?_) rfl rfl (fun _ _ _ h => h) (Or.inl ⟨by rfl, ?_⟩) (by assumption) ?_
                    rotate_left 1
                    · (intro w hSw; (try dsimp only at hSw); go_simp) <;> (with_reducible rfl)
                    (try simp only [Act.put, List.setIfInBounds_toArray, List.set_cons_zero, List.set_cons_succ])
                    refine tK (i := 3) (d := some 106) (v := ?_) rfl rfl (fun _ _ _ h => h) (Or.inl ⟨by rfl, ?_⟩) (by assumption) ?_
                    rotate_left 1
                    · (intro w hSw; (try dsimp only at hSw); go_simp) <;> (with_reducible rfl)
                    (try simp only [Act.put, List.setIfInBounds_toArray, List.set_cons_zero, List.set_cons_succ])
                    refine tK (i := 4) (d := some 107) (v := ?_) rfl rfl (fun _ _ _ h => h) (Or.inl ⟨by rfl, ?_⟩) (by assumption) ?_
                    rotate_left 1
                    · (intro w hSw; (try dsimp only at hSw); go_simp) <;> (with_reducible rfl)
                    (try simp only [Act.put, List.setIfInBounds_toArray, List.set_cons_zero, List.set_cons_succ])
                    refine tK (i := 5) (d := some 108) (v := ?_) rfl rfl (fun _ _ _ h => h) (Or.inl ⟨by rfl, ?_⟩) (by assumption) ?_
                    rotate_left 1
                    · (intro w hSw; (try dsimp only at hSw); go_simp) <;> (with_reducible rfl)
                    (try simp only [Act.put, List.setIfInBounds_toArray, List.set_cons_zero, List.set_cons_succ])
                    refine tK (i := 6) (d := some 109) (v := ?_) rfl rfl (fun _ _ _ h => h) (Or.inl ⟨by rfl, ?_⟩) (by assumption) ?_
                    rotate_left 1
                    · (intro w hSw; (try dsimp only at hSw); go_simp) <;> (with_reducible rfl)
                    (try simp only [Act.put, List.setIfInBounds_toArray, List.set_cons_zero, List.set_cons_succ])
                    refine stepL (i := 7) (by kernel_rfl) rfl (fun K' hK => ?_)
                    go_simp
                    refine hK.out _ _ ?_ (fun hHeld1 => ?_)
                    · simp [go_sem, *]
                    clear hK K' hHeld0
                    refine stepL (i := 8) (by kernel_rfl) rfl (fun K' hK => ?_)
                    have rJ : IsSlots (V.drew.alloc (.cells #[.int .i64 yj, .int .i64 ym, .int .i64 ys, .int .i64 ye] 76)) (some ⟨(V.drew).heap.size, 0, none⟩) 1 [(⟨yj, ym, ys, ye⟩ : SlotR)] := (rowS_at (V.drew) _ ⟨yj, ym, ys, ye⟩ 76 rfl).of Sx
                    (try simp only [World.size_alloc, World.size_drew] at rJ)
                    refine step_append_row (by rfl) (.tmp 108) (.tmp 110) 39 (by rfl) encS_len (by omega) encS_one s0i _ 32 Tryz.underlying39 SI.out.1 SI.out.2.1 SI.out.2.2.1 SI.out.2.2.2 rfl (l := pd) (A := pA) (c := pc) (base := w.heap.size + 2) rfl (HC.out.1.ch.pd.of Sx) (m := [⟨yj, ym, ys, ye⟩]) (by rfl) rJ (by unfold maxLen; simp; omega) (by simp; omega) (by first | omega | (simp; omega)) ?_
                    intro A3 c3 w4 ho4 hgr4 hb4
                    have hs4a := HC.out.1.of (show SinceOf V (V.drew.alloc (.cells #[.int .i64 yj, .int .i64 ym, .int .i64 ys, .int .i64 ye] 76)) from Sx)
                    have SBj := SameBut.grown (es := [76]) hgr4 (fun g5 hg5 => by obtain ⟨cur, hc⟩ := hs4a.ch.pd.typed g5 hg5; exact ⟨cur, _, _, List.mem_singleton.2 rfl, hc⟩)
                    have hgc4 := SBj g _ _ _ (by simp) hs4a.ch.cell
                    have hct4 := SBj ct _ _ _ (by simp) hs4a.cell
                    have hO4 : Nonempty (Old w4 g) := ⟨⟨heap_lt hgc4⟩⟩
                    have hOc4 : Nonempty (Old w4 ct) := ⟨⟨heap_lt hct4⟩⟩
                    have fg3 := free_of hgc4 5
                    have cg3 := cell_of (i := 5) hgc4 rfl
                    have hz4 := hgr4.size
                    (try simp at hz4)
                    refine hK.out _ _ ⟨cell_of (i := 0) hct4 rfl, cg3, hgr4.cell hHeld1.2.2.1 hnt, hgr4.cell hHeld1.2.2.2.1 hnt, hgr4.cell hHeld1.2.2.2.2.1 hnt, hgr4.cell hHeld1.2.2.2.2.2 hnt⟩ (fun hHeld2 => ?_)
                    clear hK K' hHeld1
                    refine tK (i := 9) (d := some 112) (v := ?_) rfl rfl (fun _ _ _ h => h) (Or.inl ⟨by rfl, ?_⟩) (by assumption) ?_
                    rotate_left 1
                    · (intro w hSw; (try dsimp only at hSw); go_simp) <;> (with_reducible rfl)
                    (try simp only [Act.put, List.setIfInBounds_toArray, List.set_cons_zero, List.set_cons_succ])
                    refine tK (i := 10) (d := some 113) (v := ?_) rfl rfl (fun _ _ _ h => h) (Or.inl ⟨by rfl, ?_⟩) (by assumption) ?_
                    rotate_left 1
                    · (intro w hSw; (try dsimp only at hSw); go_simp) <;> (with_reducible rfl)
                    (try simp only [Act.put, List.setIfInBounds_toArray, List.set_cons_zero, List.set_cons_succ])
                    refine tK (i := 11) (d := some 114) (v := ?_) rfl rfl (fun _ _ _ h => h) (Or.inl ⟨by rfl, ?_⟩) (by assumption) ?_
                    rotate_left 1
                    · (intro w hSw; (try dsimp only at hSw); go_simp) <;> (with_reducible rfl)
                    (try simp only [Act.put, List.setIfInBounds_toArray, List.set_cons_zero, List.set_cons_succ])
                    refine lastL (i := 12) (by kernel_rfl) (by rfl) rfl (fun K' hK => ?_)
                    go_simp
                    refine hK.out _ _ ?_
                    clear hK K'
                    refine doneL (by kernel_rfl) ?_ _
                    go_wp2_with fail
                    go_roundg (plan.length - (k2 + 1))
                    case measure => omega
                    case rel =>
                      have hJJ := hs4a.ch.pushPend (v := ⟨yj, ym, ys, ye⟩) ho4 hgr4 hb4
                      have hcc := SameBut.set (es := [92]) (i := 5) (u := .slice A3 (pd ++ [(⟨yj, ym, ys, ye⟩ : SlotR)]).length c3) ⟨_, _, _, List.mem_singleton.2 rfl, hgc4⟩ ct _ _ _ (by simp) hct4
                      rw [List.length_append] at hJJ hcc
                      refine ⟨k2 + 1, _, hlt2, Nat.le_refl _, by go_num, ⟨hJJ, hs4a.ctb, hcc⟩, ?_, HX.out.2.2.1, HX.out.2.2.2.1, ?_, ?_, HX.out.2.2.2.2.2.2.1, ?_⟩
                      · simp; omega
                      · rw [HX.out.2.2.2.2.2.2.2.2.2.2, List.filter_append, ← HX.out.2.2.2.2.1]; simp [hcb]
                      · rw [HX.out.2.2.2.2.2.2.2.2.2.2, List.filter_append, ← HX.out.2.2.2.2.2.1]; simp [hcb]
                      · refine SinceOf.setCell (SinceOf.grown (HX.out.2.2.2.2.2.2.2.1.trans (HC.out.2.trans Sx)) hgr4 (fun q hq => ?_)) ?_ _
                        · have := (hs4a.ch.pd.below q hq).1
                          simp
                          omega
                        · have := hs4a.ch.base
                          simp
                          omega
                · have hkl2 : k2 = plan.length := by omega
                  rw [hkl2, List.take_length] at hx3 hx4
                  have hst : runV now (startV ⟨sA, sc, cals, sB, sd, R, most⟩ L plan now) evs = runV now (erSt x2) (evs.drop 0) := by
                    rw [List.drop_zero]
                    congr 1
                    unfold erSt startV
                    rw [hx1, hx2, hx3, hx4, hx5]
                    simp [List.map_const']
                  have hlen : LensP (erSt x2) 40 := by
                    refine ⟨?_, ?_, ?_, ?_⟩
                    · show (erS x2.s).cals.length ≤ 6
                      rw [hx1]
                      have := HW.out.2.2.2.2.2.cals
                      simpa [erS] using this
                    · show (erL x2.L).length ≤ 40
                      rw [hx2, erL_length]
                      exact hL40
                    · show x2.bg.length ≤ 1000000
                      rw [hx3]
                      have := List.length_filter_le (fun y : SlotR => decide (y.start < now)) plan
                      omega
                    · show x2.dr.length = (erL x2.L).length
                      rw [hx5, hx2, erL_length, List.length_replicate]
                  have H2 := Lib.hid (And.intro hap (And.intro hsz (And.intro hst (And.intro hlen hsi))))
                  clear hap hsz hx1 hx2 hx3 hx4 hx5 hsi hsw hkl2 hst hlen SI
                  go_wp2_with fail
                  go_loopg [118] evs.length (fun gas s118 wr => ∃ (k : Nat) (x : StR), k ≤ evs.length ∧ evs.length - k ≤ gas ∧ s118 = .int .i64 k ∧ ApAt wr (w.heap.size + 2) ct g now x ∧ w.heap.size + 2 ≤ wr.heap.size ∧ runV now (startV ⟨sA, sc, cals, sB, sd, R, most⟩ L plan now) evs = runV now (erSt x) (evs.drop k) ∧ LensP (erSt x) (40 + k) ∧ SinceOf ((w.alloc (.cells #[.slice sA cals.length sc, .slice sB R.length sd, .int .i64 most] 37)).alloc (.cells #[.slice none 0 0, .slice none 0 0, .int .i64 0, .slice none 0 0, .slice none 0 0, .slice none 0 0, .slice none 0 0] 42)) wr)
                  case atStart => exact ⟨0, x2, by omega, by omega, rfl, H2.out.1, H2.out.2.1, H2.out.2.2.1, H2.out.2.2.2.1, H2.out.2.2.2.2⟩
                  case round =>
                    clear H2
                    obtain ⟨k3, x3, hk3, hgas3, rfl, hap, hsz, hst, hlen, ⟨z, rfl⟩⟩ := hrel
                    by_cases hlt3 : k3 < evs.length
                    · have hj := HW.out.2.2.2.1.of (w' := z.wd) Sx
                      obtain ⟨gj, off, rfl, hr⟩ := hj.at_ (by omega)
                      have hOj := hr.there
                      have s0 := hr.e0 k3 hlt3
                      have s1 := hr.e1 k3 hlt3
                      have s2 := hr.e2 k3 hlt3
                      have s3 := hr.e3 k3 hlt3
                      have s4 := hr.e4 k3 hlt3
                      rw [List.drop_eq_getElem_cons hlt3] at hst
                      obtain ⟨⟨ek, em, ef, et, ej⟩, hy⟩ : ∃ y, y = evs[k3] := ⟨_, rfl⟩
                      rw [← hy] at s0 s1 s2 s3 s4 hst
                      simp only at s0 s1 s2 s3 s4
                      have hct := hap.c
                      have hOct := hap.old
                      have SN := fun W (hW : SinceOf z.wd W) => step_any (w.heap.size + 2) g now x3 ⟨ek, em, ef, et, ej⟩ W (hap.ch.of hW) (by obtain ⟨zz, rfl⟩ := hW; have := zz.size; omega) (by have := hlen.cals; simp [erSt, erS] at this; omega) (by have := hlen.L; simp [erSt, erL] at this; omega) (by have := hlen.bg; simpa [erSt] using this) (by have := hlen.dr; simpa [erSt, erL] using this)
                      have hln := hlen.step (now := now) (v := ⟨ek, em, ef, et, ej⟩)
                      obtain ⟨sv, hsv⟩ : ∃ sv, sv = stepV (erSt x3) now ⟨ek, em, ef, et, ej⟩ := ⟨_, rfl⟩
                      rw [runV_cons] at hst
                      rw [← hsv] at SN hln hst
                      have HX := Lib.hid (And.intro hap (And.intro hsz (And.intro hst hln)))
                      clear hap hsz hst hlen hln hsv hy hr hj
                      go_wp2_with fail
                      refine (SN _ Sx).mono ?_
                      rintro e w5 ⟨x5, rfl, hx5, hch5, hbey⟩
                      have hs5 := hbey.since ((w.alloc (.cells #[.slice sA cals.length sc, .slice sB R.length sd, .int .i64 most] 37)).alloc (.cells #[.slice none 0 0, .slice none 0 0, .int .i64 0, .slice none 0 0, .slice none 0 0, .slice none 0 0, .slice none 0 0] 42)) Sx (by simp)
                      have hap5 : ApAt w5 (w.heap.size + 2) ct g now x5 := ⟨hch5, HX.out.1.ctb, hbey.same ct _ _ _ (by simp [chT]) (heapAt HX.out.1.cell Sx)⟩
                      have hsz5 : w.heap.size + 2 ≤ w5.heap.size := by
                        have := hbey.size
                        have h2 := HX.out.2.1
                        simp at this
                        omega
                      obtain ⟨z5, rfl⟩ := hs5
                      obtain ⟨q, sx⟩ := sv
                      have HY := Lib.hid (And.intro hx5 (And.intro hap5 hsz5))
                      clear hx5 hch5 hbey hap5 hsz5 SN s0 s1 s2 s3 s4 hct hOct hOj
                      by_cases h0 : q = 0
                      · have f0 : (q != 0) = false := by simp [h0]
                        have HQ := Lib.hid h0
                        clear h0
                        have hct5 := HY.out.2.1.c
                        have hOct5 := HY.out.2.1.old
                        go_wp2_with fail
                        go_roundg (evs.length - (k3 + 1))
                        case measure => omega
                        case rel =>
                          refine ⟨k3 + 1, x5, hlt3, Nat.le_refl _, by go_num, HY.out.2.1, HY.out.2.2, ?_, ?_, ⟨z5, rfl⟩⟩
                          · rw [HX.out.2.2.1, if_pos HQ.out, HY.out.1]
                          · rw [HY.out.1]; exact HX.out.2.2.2
                      · have f0 : (q != 0) = true := by simp [h0]
                        have HQ := Lib.hid h0
                        clear h0
                        go_wp2_with fail
                        go_returns
                        have hres : res = (q, noSt) := by rw [HR.out, HX.out.2.2.1, if_neg HQ.out, if_neg HQ.out]
                        exact ⟨zeroSt, by rw [hres]; rfl, by rw [hres]; rfl, zeroSt_from _ _, Sx⟩
                    · have hk3l : k3 = evs.length := by omega
                      rw [hk3l, List.drop_length] at hst
                      have hrun : runV now (startV ⟨sA, sc, cals, sB, sd, R, most⟩ L plan now) evs = (0, erSt x3) := hst
                      have hres : res = lastV (erSt x3) now := by rw [HR.out, hrun, if_pos rfl]
                      obtain ⟨af1, af2, af3, af4⟩ := after_events HW.out.2.2.2.2.1 HG.out hrun
                      obtain ⟨⟨xsA, xsc, xcals, xsB, xsd, xR, xmost⟩, xA, xc, xL, gA, gc, bg, pA, pc, pd, dA, dc, dr⟩ := x3
                      simp only at af1 af2 af3 af4
                      have hLl : xL.length ≤ 1000000 := by have := hlen.L; simp [erSt, erL] at this; omega
                      have hcl : xcals.length ≤ 6 := by have := hlen.cals; simpa [erSt, erS] using this
                      have hbl : bg.length ≤ 1000000 := by have := hlen.bg; simpa [erSt] using this
                      have hdl : dr.length = xL.length := by have := hlen.dr; simpa [erSt, erL] using this
                      have hRl : xR.length ≤ 1000000 := by
                        have i := (run_inv (x0 := startV ⟨sA, sc, cals, sB, sd, R, most⟩ L plan now) (now := now) (fun y hy => by
                          have := (good_stop HG.out y (List.mem_filter.1 hy).1).1
                          show 0 ≤ y.job ∧ y.job < (erL L).length
                          rw [erL_length]
                          exact this) evs _ (start_inv _ _ _ _ HW.out.2.2.2.2.1) (by rw [hrun])).rows
                        rw [hrun] at i
                        have i2 := congrArg List.length i
                        simp [erSt, erS, startV] at i2
                        have := HW.out.2.2.2.2.2.rows
                        simp only at this
                        omega
                      have hct := hap.c
                      have hOct := hap.old
                      have hOg := hap.ch.old
                      have c3 := hap.ch.c3
                      simp only at c3
                      have H3 := Lib.hid (And.intro hap hsz)
                      have HA := Lib.hid (And.intro af1 (And.intro af2 (And.intro af3 af4)))
                      have HRS := Lib.hid hres
                      have HDL := Lib.hid hdl
                      clear hap hsz hst hlen hk3l hrun hres af1 af2 af3 af4 hdl
                      go_wp2_with fail
                      go_loopg [136] xL.length (fun gas s136 wr => ∃ k : Nat, k ≤ xL.length ∧ xL.length - k ≤ gas ∧ s136 = .int .i64 k ∧ ApAt wr (w.heap.size + 2) ct g now ⟨⟨xsA, xsc, xcals, xsB, xsd, xR, xmost⟩, xA, xc, laterTo bg now k xL, gA, gc, bg, pA, pc, pd, dA, dc, dr⟩ ∧ w.heap.size + 2 ≤ wr.heap.size ∧ SinceOf ((w.alloc (.cells #[.slice sA cals.length sc, .slice sB R.length sd, .int .i64 most] 37)).alloc (.cells #[.slice none 0 0, .slice none 0 0, .int .i64 0, .slice none 0 0, .slice none 0 0, .slice none 0 0, .slice none 0 0] 42)) wr)
                      case atStart => exact ⟨0, by omega, by omega, rfl, by rw [laterTo_zero]; exact H3.out.1, H3.out.2, ⟨z, rfl⟩⟩
                      case round =>
                        clear H3 hct hOct hOg c3
                        obtain ⟨k4, hk4, hgas4, rfl, hap, hsz, ⟨z4, rfl⟩⟩ := hrel
                        have hlL := laterTo_length bg now k4 xL
                        have hct := hap.c
                        have hOct := hap.old
                        have hOg := hap.ch.old
                        have c3 := hap.ch.c3
                        simp only [hlL] at c3
                        by_cases hlt4 : k4 < xL.length
                        · have BG := fun W (hW : SinceOf z4.wd W) => (by
                            have hO : Nonempty (Old W g) := (hap.ch.of hW).old
                            exact begunC_any g gA gc bg k4 W (hap.ch.of hW).c4 ((hap.ch.of hW).bg.isRow encS_len) (by omega) : Gives Tryz.prog 33 #[.pointer (some ⟨g, 0, none⟩), .int .i64 k4] W (.bool (begunJ bg k4)))
                          obtain ⟨bv, hbv⟩ : ∃ bv, bv = begunJ bg k4 := ⟨_, rfl⟩
                          rw [← hbv] at BG
                          cases bv
                          · obtain ⟨q, hq, hqb, hlive⟩ := hap.ch.jobs.live encJ_len (by simp only [hlL]; omega)
                            simp only at hq
                            subst hq
                            have hO2 := hlive.row.there
                            have r0 := hlive.row.j3 k4 (by simp only [hlL]; exact hlt4)
                            have f0 := hlive.free (k4 * 6 + 3) (by simp only [hlL]; omega)
                            simp only [laterTo_at bg now hlt4, Nat.zero_add] at r0 f0
                            obtain ⟨rl, hrl⟩ : ∃ r, r = xL[k4].rel := ⟨_, rfl⟩
                            rw [← hrl] at r0
                            have HP := Lib.hid (And.intro hap (And.intro hsz (And.intro hbv (And.intro hrl hqb))))
                            clear hap hsz hbv hlive hrl
                            go_wp2_with fail
                            refine (BG _ Sx).calls.mono ?_
                            rintro e _ ⟨rfl, z5, rfl⟩
                            go_wp2_with fail
                            refine regionL [19] (S := (fun w' => w'.cell? ⟨ct, 0, none⟩ = some (.pointer (some ⟨g, 0, none⟩)) ∧ w'.cell? ⟨g, 3, none⟩ = some (.slice (some ⟨q, 0, none⟩) xL.length xc) ∧ w'.cell? ⟨q, k4 * 6 + 3, none⟩ = some (.int .i64 rl))) (by kernel_rfl) ?_ (fun hHeld0 => ?_)
                            · simp [go_sem, *]
                            refine tK (i := 0) (d := some 143) (v := ?_) rfl rfl (fun _ _ _ h => h) (Or.inl ⟨by rfl, ?_⟩) (by assumption) ?_
                            rotate_left 1
                            · (intro w hSw; (try dsimp only at hSw); go_simp) <;> (with_reducible rfl)
                            (try simp only [Act.put, List.setIfInBounds_toArray, List.set_cons_zero, List.set_cons_succ])
                            refine tK (i := 1) (d := some 144) (v := ?_) rfl rfl (fun _ _ _ h => h) (Or.inl ⟨by rfl, ?_⟩) (by assumption) ?_
                            rotate_left 1
                            · (intro w hSw; (try dsimp only at hSw); go_simp) <;> (with_reducible rfl)
                            (try simp only [Act.put, List.setIfInBounds_toArray, List.set_cons_zero, List.set_cons_succ])
                            refine tK (i := 2) (d := some 145) (v := ?_) rfl rfl (fun _ _ _ h => h) (Or.inl ⟨by rfl, ?_⟩) (by assumption) ?_
                            rotate_left 1
                            · (intro w hSw; (try dsimp only at hSw); go_simp) <;> (with_reducible rfl)
                            (try simp only [Act.put, List.setIfInBounds_toArray, List.set_cons_zero, List.set_cons_succ])
                            refine tK (i := 3) (d := some 146) (v := ?_) rfl rfl (fun _ _ _ h => h) (Or.inl ⟨by rfl, ?_⟩) (by assumption) ?_
                            rotate_left 1
                            · (intro w hSw; (try dsimp only at hSw); go_simp) <;> (with_reducible rfl)
                            (try simp only [Act.put, List.setIfInBounds_toArray, List.set_cons_zero, List.set_cons_succ])
                            refine tK (i := 4) (d := some 147) (v := ?_) rfl rfl (fun _ _ _ h => h) (Or.inl ⟨by rfl, ?_⟩) (by assumption) ?_
                            rotate_left 1
                            · (intro w hSw; (try dsimp only at hSw); go_simp) <;> (with_reducible rfl)
                            (try simp only [Act.put, List.setIfInBounds_toArray, List.set_cons_zero, List.set_cons_succ])
                            refine tK (i := 5) (d := some 148) (v := ?_) rfl rfl (fun _ _ _ h => h) (Or.inl ⟨by rfl, ?_⟩) (by assumption) ?_
                            rotate_left 1
                            · (intro w hSw; (try dsimp only at hSw); go_simp) <;> (with_reducible rfl)
                            (try simp only [Act.put, List.setIfInBounds_toArray, List.set_cons_zero, List.set_cons_succ])
                            refine tK (i := 6) (d := some 149) (v := ?_) rfl rfl (fun _ _ _ h => h) (Or.inl ⟨by rfl, ?_⟩) (by assumption) ?_
                            rotate_left 1
                            · (intro w hSw; (try dsimp only at hSw); go_simp) <;> (with_reducible rfl)
                            (try simp only [Act.put, List.setIfInBounds_toArray, List.set_cons_zero, List.set_cons_succ])
                            refine tK (i := 7) (d := some 150) (v := ?_) rfl rfl (fun _ _ _ h => h) (Or.inl ⟨by rfl, ?_⟩) (by assumption) ?_
                            rotate_left 1
                            · (intro w hSw; (try dsimp only at hSw); go_simp) <;> (with_reducible rfl)
                            (try simp only [Act.put, List.setIfInBounds_toArray, List.set_cons_zero, List.set_cons_succ])
                            refine tK (i := 8) (d := some 151) (v := ?_) rfl rfl (fun _ _ _ h => h) (Or.inl ⟨by rfl, ?_⟩) (by assumption) ?_
                            rotate_left 1
                            · (intro w hSw; (try dsimp only at hSw); go_simp) <;> (with_reducible rfl)
                            (try simp only [Act.put, List.setIfInBounds_toArray, List.set_cons_zero, List.set_cons_succ])
                            refine tK (i := 9) (d := some 152) (v := ?_) rfl rfl (fun _ _ _ h => h) (Or.inl ⟨by rfl, ?_⟩) (by assumption) ?_
                            rotate_left 1
                            · (intro w hSw; (try dsimp only at hSw); go_simp) <;> (with_reducible rfl)
                            (try simp only [Act.put, List.setIfInBounds_toArray, List.set_cons_zero, List.set_cons_succ])
                            refine tK (i := 10) (d := some 153) (v := ?_) rfl rfl (fun _ _ _ h => h) (Or.inl ⟨by rfl, ?_⟩) (by assumption) ?_
                            rotate_left 1
                            · (intro w hSw; (try dsimp only at hSw); go_simp) <;> (with_reducible rfl)
                            (try simp only [Act.put, List.setIfInBounds_toArray, List.set_cons_zero, List.set_cons_succ])
                            refine tK (i := 11) (d := some 154) (v := ?_) rfl rfl (fun _ _ _ h => h) (Or.inl ⟨by rfl, ?_⟩) (by assumption) ?_
                            rotate_left 1
                            · (intro w hSw; (try dsimp only at hSw); go_simp) <;> (with_reducible rfl)
                            (try simp only [Act.put, List.setIfInBounds_toArray, List.set_cons_zero, List.set_cons_succ])
                            refine tK (i := 12) (d := some 155) (v := ?_) rfl rfl (fun _ _ _ h => h) (Or.inl ⟨by rfl, ?_⟩) (by assumption) ?_
                            rotate_left 1
                            · (intro w hSw; (try dsimp only at hSw); go_simp) <;> (with_reducible rfl)
                            (try simp only [Act.put, List.setIfInBounds_toArray, List.set_cons_zero, List.set_cons_succ])
                            refine tK (i := 13) (d := some 156) (v := ?_) rfl rfl (fun _ _ _ h => h) (Or.inl ⟨by rfl, ?_⟩) (by assumption) ?_
                            rotate_left 1
                            · (intro w hSw; (try dsimp only at hSw); go_simp) <;> (with_reducible rfl)
                            (try simp only [Act.put, List.setIfInBounds_toArray, List.set_cons_zero, List.set_cons_succ])
                            refine tK (i := 14) (d := some 157) (v := ?_) rfl rfl (fun _ _ _ h => h) (Or.inl ⟨by rfl, ?_⟩) (by assumption) ?_
                            rotate_left 1
                            · (intro w hSw; (try dsimp only at hSw); go_simp) <;> (with_reducible rfl)
                            (try simp only [Act.put, List.setIfInBounds_toArray, List.set_cons_zero, List.set_cons_succ])
                            refine tK (i := 15) (d := some 158) (v := ?_) rfl rfl (fun _ _ _ h => h) (Or.inl ⟨by rfl, ?_⟩) (by assumption) ?_
                            rotate_left 1
                            · (intro w hSw; (try dsimp only at hSw); go_simp) <;> (with_reducible rfl)
                            (try simp only [Act.put, List.setIfInBounds_toArray, List.set_cons_zero, List.set_cons_succ])
                            refine tK (i := 16) (d := some 159) (v := ?_) rfl rfl (fun _ _ _ h => h) (Or.inl ⟨by rfl, ?_⟩) (by assumption) ?_
                            rotate_left 1
                            · (intro w hSw; (try dsimp only at hSw); go_simp) <;> (with_reducible rfl)
                            (try simp only [Act.put, List.setIfInBounds_toArray, List.set_cons_zero, List.set_cons_succ])
                            refine tK (i := 17) (d := some 160) (v := ?_) rfl rfl (fun _ _ _ h => h) (Or.inl ⟨by rfl, ?_⟩) (by assumption) ?_
                            rotate_left 1
                            · (intro w hSw; (try dsimp only at hSw); go_simp) <;> (with_reducible rfl)
                            (try simp only [Act.put, List.setIfInBounds_toArray, List.set_cons_zero, List.set_cons_succ])
                            refine tK (i := 18) (d := some 161) (v := ?_) rfl rfl (fun _ _ _ h => h) (Or.inl ⟨by rfl, ?_⟩) (by assumption) ?_
                            rotate_left 1
                            · (intro w hSw; (try dsimp only at hSw); go_simp) <;> (with_reducible rfl)
                            (try simp only [Act.put, List.setIfInBounds_toArray, List.set_cons_zero, List.set_cons_succ])
                            refine lastL (i := 19) (by kernel_rfl) (by rfl) rfl (fun K' hK => ?_)
                            go_simp
                            refine hK.out _ _ ?_
                            clear hK K'
                            refine doneL (by kernel_rfl) ?_ _
                            go_wp2_with fail
                            go_roundg (xL.length - (k4 + 1))
                            case measure => omega
                            case rel =>
                              have h5 := (HP.out.1.of (show SinceOf z4.wd z5.wd from Sx)).release hlt4 HP.out.2.2.1.symm
                              rw [← HP.out.2.2.2.1] at h5
                              have h6 := h5.of (SinceOf.refl _).drew
                              refine ⟨k4 + 1, hlt4, Nat.le_refl _, by go_num, h6, ?_, ?_⟩
                              · have := HP.out.2.1
                                have := z5.size
                                simp
                                omega
                              · exact SinceOf.drew (SinceOf.setCell Sx (by have := HP.out.2.2.2.2; simp; omega) _)
                          · have HP := Lib.hid (And.intro hap (And.intro hsz hbv))
                            clear hap hsz hbv
                            go_wp2_with fail
                            refine (BG _ Sx).calls.mono ?_
                            rintro e _ ⟨rfl, z5, rfl⟩
                            go_wp2_with fail
                            go_roundg (xL.length - (k4 + 1))
                            case measure => omega
                            case rel =>
                              refine ⟨k4 + 1, hlt4, Nat.le_refl _, by go_num, by rw [laterTo_skip hlt4 HP.out.2.2.symm]; exact HP.out.1.of Sx, ?_, Sx⟩
                              have := HP.out.2.1
                              have := z5.size
                              omega
                        · have hLL : laterTo bg now k4 xL = xL.mapIdx (laterJ bg now) := by rw [show k4 = xL.length by omega, laterTo_all]
                          obtain ⟨L', hL'⟩ : ∃ L', L' = laterTo bg now k4 xL := ⟨_, rfl⟩
                          rw [← hL'] at hap hlL hLL
                          have c4 := hap.ch.c4
                          simp only at c4
                          have H4 := Lib.hid (And.intro hap hsz)
                          have HLL := Lib.hid hLL
                          have hL2 : L'.length = xL.length := hlL
                          clear hap hsz hLL hL' hlL
                          go_wp2_with fail
                          go_loopg [169] bg.length (fun gas s169 wr => ∃ (k : Nat) (done : List SlotR), k ≤ bg.length ∧ bg.length - k ≤ gas ∧ s169 = .int .i64 k ∧ done.length = k ∧ ApAt wr (w.heap.size + 2) ct g now ⟨⟨xsA, xsc, xcals, xsB, xsd, xR, xmost⟩, xA, xc, L', gA, gc, done ++ bg.drop k, pA, pc, pd, dA, dc, dr⟩ ∧ w.heap.size + 2 ≤ wr.heap.size ∧ endsV ⟨xsA, xsc, xcals, xsB, xsd, xR, xmost⟩ L' bg = (endsV ⟨xsA, xsc, xcals, xsB, xsd, xR, xmost⟩ L' (bg.drop k)).map (done ++ ·) ∧ SinceOf ((w.alloc (.cells #[.slice sA cals.length sc, .slice sB R.length sd, .int .i64 most] 37)).alloc (.cells #[.slice none 0 0, .slice none 0 0, .int .i64 0, .slice none 0 0, .slice none 0 0, .slice none 0 0, .slice none 0 0] 42)) wr)
                          case atStart => exact ⟨0, [], by omega, by omega, rfl, rfl, by rw [List.drop_zero, List.nil_append]; exact H4.out.1, H4.out.2, by simp, ⟨z4, rfl⟩⟩
                          case round =>
                            clear H4 hct hOct hOg c3 c4
                            obtain ⟨k5, done, hk5, hgas5, rfl, hdone, hap, hsz, hen, ⟨z6, rfl⟩⟩ := hrel
                            by_cases hlt5 : k5 < bg.length
                            · have hbn := HA.out.1 _ (List.getElem_mem hlt5)
                              rw [List.drop_eq_getElem_cons hlt5] at hap hen
                              obtain ⟨⟨yj, ym, ys, ye⟩, hy⟩ : ∃ y, y = bg[k5] := ⟨_, rfl⟩
                              rw [← hy] at hap hen hbn
                              simp only at hbn
                              obtain ⟨j, rfl⟩ : ∃ j : Nat, yj = j := ⟨yj.toNat, by omega⟩
                              obtain ⟨m, rfl⟩ : ∃ m : Nat, ym = m := ⟨ym.toNat, by omega⟩
                              have hj : j < L'.length := by omega
                              have hm : m < xcals.length := by omega
                              have hj3 : (j : Int) < (xL.length : Int) := by omega
                              have hj4 : j < xL.length := by omega
                              have hm3 : (m : Int) < (xcals.length : Int) := by omega
                              have hat : (done ++ (⟨(j : Int), (m : Int), ys, ye⟩ : SlotR) :: bg.drop (k5 + 1))[k5]? = some ⟨(j : Int), (m : Int), ys, ye⟩ := by subst hdone; simp
                              have hbl5 : (done ++ (⟨(j : Int), (m : Int), ys, ye⟩ : SlotR) :: bg.drop (k5 + 1)).length = bg.length := by simp; omega
                              obtain ⟨q, hq, hqb, hlive⟩ := hap.ch.bg.live encS_len (by simp; omega)
                              simp only at hq
                              subst hq
                              have hO2 := hlive.row.there
                              have hlt6 : k5 < (done ++ (⟨(j : Int), (m : Int), ys, ye⟩ : SlotR) :: bg.drop (k5 + 1)).length := by rw [hbl5]; exact hlt5
                              have s0 := hlive.row.s0 k5 hlt6
                              have s1 := hlive.row.s1 k5 hlt6
                              have s2 := hlive.row.s2 k5 hlt6
                              have s3 := hlive.row.s3 k5 hlt6
                              have f3 := hlive.free (k5 * 4 + 3) (by simp only [hbl5]; omega)
                              rw [List.getElem?_eq_getElem hlt6] at hat
                              injection hat with hat
                              simp only [hat, Nat.zero_add] at s0 s1 s2 s3 f3
                              obtain ⟨q2, hq2, hqb2, hlive2⟩ := hap.ch.cals.row.live encC_len (by simp only; omega)
                              simp only at hq2
                              subst hq2
                              have hO3 := hlive2.row.there
                              have k0 := hlive2.row.k0 m hm
                              have k1 := hlive2.row.k1 m hm
                              have k2 := hlive2.row.k2 m hm
                              obtain ⟨q3, hq3, hqb3, hlive3⟩ := hap.ch.jobs.live encJ_len (by simp only; omega)
                              simp only at hq3
                              subst hq3
                              have hO4 := hlive3.row.there
                              have d1 := hlive3.row.j1 j hj
                              simp only [Nat.zero_add] at k0 k1 k2 d1
                              obtain ⟨du, hdu⟩ : ∃ d, d = L'[j].dur := ⟨_, rfl⟩
                              rw [← hdu] at d1
                              have FN := fun W (hW : SinceOf z6.wd W) => (hap.ch.of hW).finish (m := m) hm ys du
                              simp only at FN
                              obtain ⟨fv, hfv⟩ : ∃ p, p = finishAt ⟨some ⟨q2, 0, none⟩, xsc, xcals, xsB, xsd, xR, xmost⟩ m ys du := ⟨_, rfl⟩
                              rw [← hfv] at FN
                              obtain ⟨fv, fe⟩ := fv
                              have hfv2 : finishAt ⟨some ⟨q2, 0, none⟩, xsc, xcals, xsB, xsd, xR, xmost⟩ m ys (jobAt L' (j : Int)).dur = (fv, fe) := by rw [jobAt_at hj, ← hdu]; exact hfv.symm
                              unfold pairV at FN
                              simp only at FN
                              obtain ⟨K, hK⟩ : ∃ K, K = xcals[m] := ⟨_, rfl⟩
                              rw [← hK] at k0 k1 k2 FN
                              obtain ⟨kP, kA, kc, kS, kB, kd, kD⟩ := K
                              simp only at k0 k1 k2 FN
                              have hct := hap.c
                              have hOct := hap.old
                              have hOg := hap.ch.old
                              have c0 := hap.ch.c0
                              have c3 := hap.ch.c3
                              have c4 := hap.ch.c4
                              simp only [hbl5, hL2] at c0 c3 c4
                              have HP := Lib.hid (And.intro hap (And.intro hsz (And.intro hen (And.intro hfv2 (And.intro hqb hdone)))))
                              clear hap hsz hen hlive hlive2 hlive3 hat hbl5 hlt6 hdu hfv hfv2 hK hy hdone hbn
                              go_wp2_with fail
                              go_region_held3 (fun w' => w'.cell? ⟨ct, 0, none⟩ = some (.pointer (some ⟨g, 0, none⟩)) ∧ w'.cell? ⟨g, 0, none⟩ = some (.slice (some ⟨q2, 0, none⟩) xcals.length xsc) ∧ w'.cell? ⟨g, 3, none⟩ = some (.slice (some ⟨q3, 0, none⟩) xL.length xc) ∧ w'.cell? ⟨z6.wd.heap.size, 0, none⟩ = some (.int .i64 j) ∧ w'.cell? ⟨z6.wd.heap.size, 1, none⟩ = some (.int .i64 m) ∧ w'.cell? ⟨z6.wd.heap.size, 2, none⟩ = some (.int .i64 ys) ∧ w'.cell? ⟨q2, m * 3, none⟩ = some (.int .i64 kP) ∧ w'.cell? ⟨q2, m * 3 + 1, none⟩ = some (.slice kA kS.length kc) ∧ w'.cell? ⟨q2, m * 3 + 2, none⟩ = some (.slice kB kD.length kd) ∧ w'.cell? ⟨q3, j * 6 + 1, none⟩ = some (.int .i64 du)) ((simp [go_sem, *]))
                                (first
                                  | (go_at_call 34; refine (FN _ Sx).calls.mono ?_; rintro e _ ⟨rfl, z7, rfl⟩))
                              all_goals
                                by_cases h0 : fe = 0
                                · have f0 : (fe != 0) = false := by simp [h0]
                                  have HQ := Lib.hid h0
                                  clear h0
                                  go_wp2_with fail
                                  go_roundg (bg.length - (k5 + 1))
                                  case measure => omega
                                  case rel =>
                                    have h9 := (HP.out.1.of (show SinceOf z6.wd z7.wd from Sx)).ended fv
                                    rw [HP.out.2.2.2.2.2] at h9
                                    have h10 := HP.out.2.2.2.1
                                    rw [HQ.out] at h10
                                    refine ⟨k5 + 1, done ++ [⟨j, m, ys, fv⟩], hlt5, Nat.le_refl _, by go_num, by simp [HP.out.2.2.2.2.2], h9, ?_, ?_, ?_⟩
                                    · have := HP.out.2.1
                                      have := z7.size
                                      simp at this ⊢
                                      omega
                                    · rw [HP.out.2.2.1, endsV_cons_some (y := ⟨j, m, ys, ye⟩) h10, Option.map_map]
                                      congr 1
                                      funext t
                                      simp
                                    · exact SinceOf.setCell Sx (by have := HP.out.2.2.2.2.1; simp; omega) _
                                · have f0 : (fe != 0) = true := by simp [h0]
                                  have HQ := Lib.hid h0
                                  clear h0
                                  go_wp2_with fail
                                  go_returns
                                  have h10 := HP.out.2.2.2.1
                                  have hres : res = (8, noSt) := by
                                    rw [HRS.out]
                                    refine last_none ?_
                                    rw [← HLL.out, HP.out.2.2.1, endsV_cons_none (by simp only [h10]; exact HQ.out)]
                                    rfl
                                  exact ⟨zeroSt, by rw [hres]; rfl, by rw [hres]; rfl, zeroSt_from _ _, Sx⟩
                            · have hk5l : k5 = bg.length := by omega
                              rw [hk5l, List.drop_length] at hap hen
                              rw [List.append_nil] at hap
                              have hen2 : endsV ⟨xsA, xsc, xcals, xsB, xsd, xR, xmost⟩ L' bg = some done := by rw [hen]; simp [endsV]
                              obtain ⟨pp, hpp⟩ : ∃ p : SlotR → Bool, p = fun y => dr.getD y.job.toNat false := ⟨_, rfl⟩
                              have hres : res = (0, erSt ⟨⟨xsA, xsc, xcals, xsB, xsd, xR, xmost⟩, xA, xc, L', gA, gc, done, pA, pc, sortS (pd.filter fun y => !pp y), dA, dc, dr⟩) := by
                                rw [HRS.out, hpp]
                                rw [HLL.out] at hen2 ⊢
                                exact last_some hen2
                              have DR : ∀ W, SameBut [76] z6.wd W → ∀ y ∈ pd, Gives Tryz.prog 36 #[slotV y, .pointer (some ⟨ct, 0, none⟩)] W (.bool (pp y)) := fun W hW y hy => by
                                have hc1 := hW ct _ _ _ (by simp) hap.cell
                                have hc2 := hW g _ _ _ (by simp) hap.ch.cell
                                have o1 : Nonempty (Old W ct) := ⟨⟨heap_lt hc1⟩⟩
                                have o2 : Nonempty (Old W g) := ⟨⟨heap_lt hc2⟩⟩
                                rw [hpp]
                                exact dropped_any ct g dA dc dr y W (cell_of hc1 rfl) (cell_of (i := 6) hc2 rfl) ((hap.ch.dr.sameBut (by simp) hW).isRow encB_len) (HA.out.2.1 y hy) (by have := HDL.out; omega)
                              have hpdl : pd.length ≤ 1000000 := by have := HA.out.2.2.2; omega
                              have DL := fun W (hW : SinceOf z6.wd W) => deleteSlots_any (.pointer (some ⟨ct, 0, none⟩)) pp (w.heap.size + 2) pA pc pd W (hap.ch.pd.of hW) hpdl (fun W2 h2 y hy => DR W2 ((SameBut.since hW).trans h2) y hy)
                              have hnd : ((pd.filter fun y => !pp y).map (·.job)).Nodup := (List.filter_sublist.map _).nodup HA.out.2.2.1
                              have hfl : (pd.filter fun y => !pp y).length ≤ 1000000 := by have := List.length_filter_le (fun y => !pp y) pd; omega
                              generalize (pd.filter fun y => !pp y) = FL at *
                              have hct := hap.c
                              have hOct := hap.old
                              have hOg := hap.ch.old
                              have c5 := hap.ch.c5
                              simp only at c5
                              have HP := Lib.hid (And.intro hap (And.intro hsz hres))
                              have hdl2 : done.length = bg.length := by omega
                              clear hap hsz hen hen2 hres DR hpp hdone hk5l
                              go_wp2_with fail
                              refine regionL [11] (S := (fun w' => w'.cell? ⟨ct, 0, none⟩ = some (.pointer (some ⟨g, 0, none⟩)) ∧ w'.cell? ⟨g, 5, none⟩ = some (.slice pA pd.length pc))) (by kernel_rfl) ?_ (fun hHeld0 => ?_)
                              · simp [go_sem, *]
                              refine tK (i := 0) (d := some 213) (v := ?_) rfl rfl (fun _ _ _ h => h) (Or.inl ⟨by rfl, ?_⟩) (by assumption) ?_
                              rotate_left 1
                              · (intro w hSw; (try dsimp only at hSw); go_simp) <;> (with_reducible rfl)
                              (try simp only [Act.put, List.setIfInBounds_toArray, List.set_cons_zero, List.set_cons_succ])
                              refine tK (i := 1) (d := some 214) (v := ?_) rfl rfl (fun _ _ _ h => h) (Or.inl ⟨by rfl, ?_⟩) (by assumption) ?_
                              rotate_left 1
                              · (intro w hSw; (try dsimp only at hSw); go_simp) <;> (with_reducible rfl)
                              (try simp only [Act.put, List.setIfInBounds_toArray, List.set_cons_zero, List.set_cons_succ])
                              refine tK (i := 2) (d := some 215) (v := ?_) rfl rfl (fun _ _ _ h => h) (Or.inl ⟨by rfl, ?_⟩) (by assumption) ?_
                              rotate_left 1
                              · (intro w hSw; (try dsimp only at hSw); go_simp) <;> (with_reducible rfl)
                              (try simp only [Act.put, List.setIfInBounds_toArray, List.set_cons_zero, List.set_cons_succ])
                              refine tK (i := 3) (d := some 216) (v := ?_) rfl rfl (fun _ _ _ h => h) (Or.inl ⟨by rfl, ?_⟩) (by assumption) ?_
                              rotate_left 1
                              · (intro w hSw; (try dsimp only at hSw); go_simp) <;> (with_reducible rfl)
                              (try simp only [Act.put, List.setIfInBounds_toArray, List.set_cons_zero, List.set_cons_succ])
                              refine tK (i := 4) (d := some 217) (v := ?_) rfl rfl (fun _ _ _ h => h) (Or.inl ⟨by rfl, ?_⟩) (by assumption) ?_
                              rotate_left 1
                              · (intro w hSw; (try dsimp only at hSw); go_simp) <;> (with_reducible rfl)
                              (try simp only [Act.put, List.setIfInBounds_toArray, List.set_cons_zero, List.set_cons_succ])
                              refine tK (i := 5) (d := some 218) (v := ?_) rfl rfl (fun _ _ _ h => h) (Or.inl ⟨by rfl, ?_⟩) (by assumption) ?_
                              rotate_left 1
                              · (intro w hSw; (try dsimp only at hSw); go_simp) <;> (with_reducible rfl)
                              (try simp only [Act.put, List.setIfInBounds_toArray, List.set_cons_zero, List.set_cons_succ])
                              refine tK (i := 6) (d := some 219) (v := ?_) rfl rfl (fun _ _ _ h => h) (Or.inl ⟨by rfl, ?_⟩) (by assumption) ?_
                              rotate_left 1
                              · (intro w hSw; (try dsimp only at hSw); go_simp) <;> (with_reducible rfl)
                              (try simp only [Act.put, List.setIfInBounds_toArray, List.set_cons_zero, List.set_cons_succ])
                              refine stepL (i := 7) (by kernel_rfl) rfl (fun K' hK => ?_)
                              go_simp
                              refine (DL _ Sx).mono ?_
                              rintro e w7 ⟨rfl, hown7, hsb7, hbl7, hsi7⟩
                              have hc7 := hsb7 ct _ _ _ (by simp) (heapAt HP.out.1.cell Sx)
                              have hg7 := hsb7 g _ _ _ (by simp) (heapAt HP.out.1.ch.cell Sx)
                              have hO7 : Nonempty (Old w7 ct) := ⟨⟨heap_lt hc7⟩⟩
                              have hOg7 : Nonempty (Old w7 g) := ⟨⟨heap_lt hg7⟩⟩
                              have cg7 := cell_of (i := 5) hg7 rfl
                              have fg7 := free_of hg7 5
                              have hs7 := hsi7 ((w.alloc (.cells #[.slice sA cals.length sc, .slice sB R.length sd, .int .i64 most] 37)).alloc (.cells #[.slice none 0 0, .slice none 0 0, .int .i64 0, .slice none 0 0, .slice none 0 0, .slice none 0 0, .slice none 0 0] 42)) Sx (by simp)
                              refine hK.out _ _ ⟨cell_of (i := 0) hc7 rfl, cg7⟩ (fun hHeld1 => ?_)
                              clear hK K' hHeld0
                              refine tK (i := 8) (d := some 221) (v := ?_) rfl rfl (fun _ _ _ h => h) (Or.inl ⟨by rfl, ?_⟩) (by assumption) ?_
                              rotate_left 1
                              · (intro w hSw; (try dsimp only at hSw); go_simp) <;> (with_reducible rfl)
                              (try simp only [Act.put, List.setIfInBounds_toArray, List.set_cons_zero, List.set_cons_succ])
                              refine tK (i := 9) (d := some 222) (v := ?_) rfl rfl (fun _ _ _ h => h) (Or.inl ⟨by rfl, ?_⟩) (by assumption) ?_
                              rotate_left 1
                              · (intro w hSw; (try dsimp only at hSw); go_simp) <;> (with_reducible rfl)
                              (try simp only [Act.put, List.setIfInBounds_toArray, List.set_cons_zero, List.set_cons_succ])
                              refine tK (i := 10) (d := some 223) (v := ?_) rfl rfl (fun _ _ _ h => h) (Or.inl ⟨by rfl, ?_⟩) (by assumption) ?_
                              rotate_left 1
                              · (intro w hSw; (try dsimp only at hSw); go_simp) <;> (with_reducible rfl)
                              (try simp only [Act.put, List.setIfInBounds_toArray, List.set_cons_zero, List.set_cons_succ])
                              refine lastL (i := 11) (by kernel_rfl) (by rfl) rfl (fun K' hK => ?_)
                              go_simp
                              refine hK.out _ _ ?_
                              clear hK K'
                              refine doneL (by kernel_rfl) ?_ _
                              have hap8 := (HP.out.1.of (show SinceOf z6.wd z6.wd.drew from Sx)).pending hsb7 hown7 hbl7
                              simp only at hap8
                              have hs8 : SinceOf ((w.alloc (.cells #[.slice sA cals.length sc, .slice sB R.length sd, .int .i64 most] 37)).alloc (.cells #[.slice none 0 0, .slice none 0 0, .int .i64 0, .slice none 0 0, .slice none 0 0, .slice none 0 0, .slice none 0 0] 42)) (w7.setCell ⟨g, 5, none⟩ (.slice pA FL.length pc)) := SinceOf.setCell hs7 (by have := HP.out.1.ch.base; simp; omega) _
                              clear hc7 hg7 hO7 hOg7 cg7 fg7 hs7 hown7 hsb7 hbl7 hsi7 hHeld1
                              generalize w7.setCell ⟨g, 5, none⟩ (.slice pA FL.length pc) = V8 at *
                              obtain ⟨z8, rfl⟩ := hs8
                              have hct8 := hap8.c
                              have hOct8 := hap8.old
                              have hOg8 := hap8.ch.old
                              have c58 := hap8.ch.c5
                              simp only at c58
                              have SO := fun W (hW : SinceOf z8.wd W) => sortSlotsOwn_any (w.heap.size + 2) pA pc FL W (hap8.ch.pd.of hW) (by omega) hnd
                              have H8 := Lib.hid hap8
                              clear hap8 DL
                              go_wp2_with fail
                              refine (SO _ (SinceOf.refl _)).mono ?_
                              rintro e w9 ⟨rfl, hs9, hgr9⟩
                              have SB9 := SameBut.grown (es := [76]) hgr9 (fun g5 hg5 => by obtain ⟨cur, hc⟩ := H8.out.ch.pd.typed g5 hg5; exact ⟨cur, _, _, List.mem_singleton.2 rfl, hc⟩)
                              have hs9' : SinceOf ((w.alloc (.cells #[.slice sA cals.length sc, .slice sB R.length sd, .int .i64 most] 37)).alloc (.cells #[.slice none 0 0, .slice none 0 0, .int .i64 0, .slice none 0 0, .slice none 0 0, .slice none 0 0, .slice none 0 0] 42)) w9 := SinceOf.grown ⟨z8, rfl⟩ hgr9 (fun q hq => by have := (H8.out.ch.pd.below q hq).1; simp; omega)
                              have hc9 := SB9 ct _ _ _ (by simp) H8.out.cell
                              have hg9 := SB9 g _ _ _ (by simp) H8.out.ch.cell
                              simp only at hg9
                              have hsl : FL.length = (sortS FL).length := (sortS_perm FL).length_eq.symm
                              obtain ⟨SF, hSF⟩ : ∃ SF, SF = sortS FL := ⟨_, rfl⟩
                              rw [← hSF] at hsl hs9
                              rw [hsl] at hg9
                              obtain ⟨z9, rfl⟩ := hs9'
                              have hct9 := cell_of (i := 0) hc9 rfl
                              have hOct9 : Nonempty (Old z9.wd ct) := ⟨⟨heap_lt hc9⟩⟩
                              have hOg9 : Nonempty (Old z9.wd g) := ⟨⟨heap_lt hg9⟩⟩
                              have g0 := cell_of (i := 0) hg9 rfl
                              have g1 := cell_of (i := 1) hg9 rfl
                              have g2 := cell_of (i := 2) hg9 rfl
                              have g3 := cell_of (i := 3) hg9 rfl
                              have g4 := cell_of (i := 4) hg9 rfl
                              have g5 := cell_of (i := 5) hg9 rfl
                              have g6 := cell_of (i := 6) hg9 rfl
                              have HF := Lib.hid (And.intro hs9 (And.intro hgr9 (And.intro hSF (by omega : SF.length < 4611686018427387904))))
                              clear hs9 hgr9 SB9 hc9 hg9 hsl hSF SO
                              go_wp2_with fail
                              go_returns
                              refine ⟨⟨⟨xsA, xsc, xcals, xsB, xsd, xR, xmost⟩, xA, xc, L', gA, gc, done, pA, pc, SF, dA, dc, dr⟩, by rw [HP.out.2.2]; simp only [stateV, hL2, hdl2], by rw [HP.out.2.2, HF.out.2.2.1], ?_, Sx⟩
                              exact fun W hW hWs => H8.out.ch.final HF.out.2.1 HF.out.1 HF.out.2.2.2 (fun b hb hlt => (hW b (by omega) (Nat.lt_of_lt_of_le hlt set7_size)).trans (set7_ne (by omega))) (Nat.le_trans set7_size hWs) (by simp only; omega) (by simp only; omega) (by simp only; omega)
  · rw [if_neg e1] at hres
    subst hres
    have HZ := Lib.hid hz0
    have HS := Lib.hid (And.intro hs hL)
    generalize validT s L plan = vt at *
    obtain ⟨v1, v2⟩ := vt
    simp only at e1 VA
    have f1 : (v2 != 0) = true := by simpa using e1
    clear hz0 e1 hs hL hl he
    obtain ⟨sA, sc, cals, sB, sd, R, most⟩ := s
    go_enter Tryz.func11, Tryz.ntmps11
    go_wp2_with fail
    refine (VA _ Sx).calls.mono ?_
    rintro e _ ⟨rfl, z1, rfl⟩
    go_wp2_with fail
    go_returns
    exact ⟨zeroSt, rfl, rfl, zeroSt_from _ _, Sx⟩
end Go.Proofs.YtpaojgfmffkodaaGreat
