/- Layer 52 (the reference): List. -/
import Derived.Test.YtdcncalcncomoaaSch47
import Derived.Test.YtdcncalcncomoaaSch28
import Derived.Deep.RegionHeld3
import Derived.Test.YtdcncalcncomoaaSch26
import Derived.Test.YtdcncalcncomoaaSch30
import Derived.Test.YtdcncalcncomoaaSch43
import Derived.Deep.CutBlock
import Derived.Test.YtdcncalcncomoaaSch25
namespace Go.Proofs.Ytdcncalcncomoaa
open Go.RowKit Go.Sort
set_option linter.unusedVariables false
attribute [local go_sem ↓] Go.wp_at_zero Go.wp_at_succ

set_option maxRecDepth 100000 in
set_option maxHeartbeats 16000000 in
theorem refList_any (s : ShopR) (A : Option Addr) (c : Nat) (L : List JobR) (C : Option Addr) (d : Nat) (order : List Int) (w : World) (hs : IsShop w s) (h : IsJobs w A c L) (ho : IsInts w C d order) (hol : order.length < 1073741824) :
    Calls Try.prog 20 #[shopV s, .slice A L.length c, .slice C order.length d] w fun e w' => ∃ (B : Option Addr) (b : Nat) (E : Option Addr) (f : Nat), e = .returned (.tuple #[.slice B (listV s L order).2.1.length b, .slice E (listV s L order).2.2.length f, .int .i64 (listV s L order).1]) ∧ IsSlots w' B b (listV s L order).2.1 ∧ (listV s L order).2.1.length ≤ b ∧ IsInts w' E f (listV s L order).2.2 ∧ SinceOf w w' := by
  have CH := fun W hW => refCheck52_any s A c L W (hs.of hW) (h.of hW)
  rw [refCheck_eq] at CH
  obtain ⟨res, hres⟩ : ∃ v, v = listV s L order := ⟨_, rfl⟩
  rw [← hres]
  unfold listV at hres
  cases hc : checkS s L
  · rw [hc] at CH hres
    simp at hres
    subst hres
    obtain ⟨sA, sc, cals, sB, sd, R, most⟩ := s
    clear hs h ho hc
    go_enter Try.func20, Try.ntmps20
    go_wp2_with fail
    refine (CH _ (by (repeat (first | (with_reducible exact SinceOf.refl _) | (with_reducible assumption) | (with_reducible refine SinceOf.alloc ?_ _) | (with_reducible refine SinceOf.drew ?_) | (with_reducible refine SinceOf.drewN ?_ _) | (with_reducible refine SinceOf.later ?_ _) | (with_reducible refine SinceOf.further ?_ _) | (with_reducible refine SinceOf.setCell ?_ (by first | exact Nat.le_refl _ | (simp; done) | omega | (simp; omega)) _))))).calls.mono ?_
    rintro e _ ⟨rfl, x1, rfl⟩
    go_wp2_with fail
    go_returns
    exact ⟨none, 0, none, 0, rfl, IsRow.nil _ _ _, by simp, IsRow.nil _ _ _, by (repeat (first | (with_reducible exact SinceOf.refl _) | (with_reducible assumption) | (with_reducible refine SinceOf.alloc ?_ _) | (with_reducible refine SinceOf.drew ?_) | (with_reducible refine SinceOf.drewN ?_ _) | (with_reducible refine SinceOf.later ?_ _) | (with_reducible refine SinceOf.further ?_ _) | (with_reducible refine SinceOf.setCell ?_ (by first | exact Nat.le_refl _ | (simp; done) | omega | (simp; omega)) _)))⟩
  · have hmc := check_machs hc
    have hjl := h.len
    rw [hc, if_pos rfl] at hres
    rw [hc] at CH
    have DI := fun B' d' (l : List SlotR) (jb : Nat) W (hW : SinceOf w W) (hl : IsSlots W B' d' l) (hll : l.length < 1073741824) (hn : NamedS s L l) (hjb : jb < L.length) => refDispatch_any s A c L B' d' l jb W (hs.of hW) (h.of hW) hc hl hll hn hjb
    obtain ⟨i0, hi, hz0, hz1, hz2⟩ := info_parts infoSlotR
    obtain ⟨n0, ni, nz0, nz1, nz2⟩ := info_parts infoInt
    have HI := Lib.hid (And.intro hi (And.intro hz0 (And.intro hz1 hz2)))
    have NI := Lib.hid (And.intro ni (And.intro nz0 (And.intro nz1 nz2)))
    have hname : ∀ (l : List SlotR) (jb : Nat) (x : SlotR), jb < L.length → NamedS s L l → dispatchV s L l jb = some x → NamedS s L (l ++ [x]) := by
      intro l jb x hjb hn hx y hy
      rcases List.mem_append.1 hy with hy | hy
      · exact hn y hy
      · rw [List.mem_singleton] at hy
        subst hy
        obtain ⟨h1, h2⟩ := dispatch_named hx
        have h3 := hmc _ (by rw [jobAt_at hjb]; exact List.getElem_mem hjb) _ h2
        rw [nameB_iff, h1]; omega
    obtain ⟨sA, sc, cals, sB, sd, R, most⟩ := s
    have H := Lib.hid (And.intro ho (And.intro hres (And.intro hname DI)))
    clear hs h ho hc hmc hres hname DI hi hz0 hz1 hz2 ni nz0 nz1 nz2
    go_enter Try.func20, Try.ntmps20
    go_wp2_with fail
    refine (CH _ (by (repeat (first | (with_reducible exact SinceOf.refl _) | (with_reducible assumption) | (with_reducible refine SinceOf.alloc ?_ _) | (with_reducible refine SinceOf.drew ?_) | (with_reducible refine SinceOf.drewN ?_ _) | (with_reducible refine SinceOf.later ?_ _) | (with_reducible refine SinceOf.further ?_ _) | (with_reducible refine SinceOf.setCell ?_ (by first | exact Nat.le_refl _ | (simp; done) | omega | (simp; omega)) _))))).calls.mono ?_
    rintro e _ ⟨rfl, x1, rfl⟩
    clear CH
    go_wp2_with fail
    go_loopg [9, 10, 11] order.length (fun gas s9 s10 s11 wr => ∃ (k : Nat) (l : List SlotR) (left : List Int) (B : Option Addr) (b : Nat) (E : Option Addr) (f : Nat), k ≤ order.length ∧ order.length - k ≤ gas ∧ s9 = .slice B l.length b ∧ s10 = .slice E left.length f ∧ s11 = .int .i64 k ∧ Owns encS 4 (w.heap.size + 1) 46 wr B b l ∧ Owns encN 1 (w.heap.size + 1) 3 wr E f left ∧ (∀ q, blockOf B = some q → blockOf E ≠ some q) ∧ l.length ≤ k ∧ left.length ≤ k ∧ NamedS ⟨sA, sc, cals, sB, sd, R, most⟩ L l ∧ SinceOf (w.alloc (.cells #[.slice sA cals.length sc, .slice sB R.length sd, .int .i64 most] 25)) wr ∧ res = listGo ⟨sA, sc, cals, sB, sd, R, most⟩ L l left (order.drop k))
    case atStart => exact ⟨0, [], [], none, 0, none, 0, by omega, by omega, rfl, rfl, rfl, Owns.nil _ _ _ _ _, Owns.nil _ _ _ _ _, by simp [blockOf], by simp, by simp, (by intro y hy; simp at hy), by (repeat (first | (with_reducible exact SinceOf.refl _) | (with_reducible assumption) | (with_reducible refine SinceOf.alloc ?_ _) | (with_reducible refine SinceOf.drew ?_) | (with_reducible refine SinceOf.drewN ?_ _) | (with_reducible refine SinceOf.later ?_ _) | (with_reducible refine SinceOf.further ?_ _) | (with_reducible refine SinceOf.setCell ?_ (by first | exact Nat.le_refl _ | (simp; done) | omega | (simp; omega)) _))), by rw [List.drop_zero]; exact H.out.2.1⟩
    case round =>
      obtain ⟨k, l, left, B, b, E, f, hk, hgas, rfl, rfl, rfl, hob, hoe, hne, hlk, hek, hnm, ⟨z, rfl⟩, hr⟩ := hrel
      by_cases hlt : k < order.length
      · rw [List.drop_eq_getElem_cons hlt, listGo] at hr
        obtain ⟨go, oo, hCo, hro⟩ := (H.out.1.of (show SinceOf w z.wd by (repeat (first | (with_reducible exact SinceOf.refl _) | (with_reducible assumption) | (with_reducible refine SinceOf.alloc ?_ _) | (with_reducible refine SinceOf.drew ?_) | (with_reducible refine SinceOf.drewN ?_ _) | (with_reducible refine SinceOf.later ?_ _) | (with_reducible refine SinceOf.further ?_ _) | (with_reducible refine SinceOf.setCell ?_ (by first | exact Nat.le_refl _ | (simp; done) | omega | (simp; omega)) _))))).at_ (by omega)
        subst hCo
        have hOo := hro.there
        have n1 := hro.n0 k hlt
        have DK := H.out.2.2.2 B b l
        have hnx := H.out.2.2.1 l
        generalize order[k] = j at *
        clear hro
        rcases asked_cases L l j with ⟨ha, e0⟩ | ⟨ha, e0, e1, e2⟩ | ⟨ha, e0, e1, e2⟩
        · rw [ha, if_neg (by decide)] at hr
          have HG := Lib.hid hr
          clear hr hob hoe hne hnm hnx DK ha
          rcases e0 with e0 | ⟨e0, e1⟩
          all_goals
            go_wp2_with fail
            go_returns
            rw [HG.out]
            exact ⟨none, 0, none, 0, rfl, IsRow.nil _ _ _, by simp, IsRow.nil _ _ _, by (repeat (first | (with_reducible exact SinceOf.refl _) | (with_reducible assumption) | (with_reducible refine SinceOf.alloc ?_ _) | (with_reducible refine SinceOf.drew ?_) | (with_reducible refine SinceOf.drewN ?_ _) | (with_reducible refine SinceOf.later ?_ _) | (with_reducible refine SinceOf.further ?_ _) | (with_reducible refine SinceOf.setCell ?_ (by first | exact Nat.le_refl _ | (simp; done) | omega | (simp; omega)) _)))⟩
        · rw [ha, if_neg (by decide)] at hr
          have HG := Lib.hid (And.intro hr (And.intro hob e2))
          clear hr hob hoe hne hnm hnx DK ha e2
          go_wp2_with fail
          go_loopg [12] l.length (fun gas s12 wr => ∃ i : Nat, i ≤ l.length ∧ l.length - i ≤ gas ∧ s12 = .int .i64 i ∧ LaterOf z.wd wr ∧ (l.drop i).any (fun y => y.job == j) = true)
          case atStart => exact ⟨0, by omega, by omega, rfl, by (repeat (first | (with_reducible exact LaterOf.refl _) | (with_reducible refine LaterOf.alloc ?_ _) | (with_reducible refine LaterOf.drew ?_) | (with_reducible refine LaterOf.drewN ?_ _) | (with_reducible refine LaterOf.later ?_ _) | (with_reducible refine LaterOf.setCell ?_ (by first | exact Nat.le_refl _ | (simp; done) | omega | (simp; omega)) _))), by rw [List.drop_zero]; exact HG.out.2.2⟩
          case round =>
            obtain ⟨i, hi, hgas2, rfl, ⟨z2, rfl⟩, hany⟩ := hrel
            by_cases hlti : i < l.length
            · rw [any_drop _ hlti] at hany
              obtain ⟨g, off, rfl, hrs⟩ := ((HG.out.2.1.isRow encS_len).of (show SinceOf z.wd z2.wd by (repeat (first | (with_reducible exact SinceOf.refl _) | (with_reducible assumption) | (with_reducible refine SinceOf.alloc ?_ _) | (with_reducible refine SinceOf.drew ?_) | (with_reducible refine SinceOf.drewN ?_ _) | (with_reducible refine SinceOf.later ?_ _) | (with_reducible refine SinceOf.further ?_ _) | (with_reducible refine SinceOf.setCell ?_ (by first | exact Nat.le_refl _ | (simp; done) | omega | (simp; omega)) _))))).at_ (by omega)
              have hO := hrs.there
              have s0 := hrs.s0 i hlti
              generalize l[i].job = yj at *
              clear hrs
              by_cases he : yj = j
              · have e : (yj == j) = true := by simpa using he
                clear hany he
                go_wp2_with fail
                refine region_later (by kernel_rfl) (by kernel_rfl) ?_
                repeat (go_big_quiet_step (fail))
                refine wpQuiet_nil ?_
                rintro _ ⟨z3, rfl⟩
                go_wp2_with fail
                go_returns
                rw [HG.out.1]
                exact ⟨none, 0, none, 0, rfl, IsRow.nil _ _ _, by simp, IsRow.nil _ _ _, by (repeat (first | (with_reducible exact SinceOf.refl _) | (with_reducible assumption) | (with_reducible refine SinceOf.alloc ?_ _) | (with_reducible refine SinceOf.drew ?_) | (with_reducible refine SinceOf.drewN ?_ _) | (with_reducible refine SinceOf.later ?_ _) | (with_reducible refine SinceOf.further ?_ _) | (with_reducible refine SinceOf.setCell ?_ (by first | exact Nat.le_refl _ | (simp; done) | omega | (simp; omega)) _)))⟩
              · have e : (yj == j) = false := by simpa using he
                rw [e, Bool.false_or] at hany
                have HA := Lib.hid hany
                clear hany he
                go_wp2_with fail
                refine region_later (by kernel_rfl) (by kernel_rfl) ?_
                repeat (go_big_quiet_step (fail))
                refine wpQuiet_nil ?_
                rintro _ ⟨z3, rfl⟩
                go_wp2_with fail
                go_roundg (l.length - (i + 1))
                case measure => omega
                case rel => exact ⟨i + 1, hlti, Nat.le_refl _, by go_num, by (repeat (first | (with_reducible exact LaterOf.refl _) | (with_reducible refine LaterOf.alloc ?_ _) | (with_reducible refine LaterOf.drew ?_) | (with_reducible refine LaterOf.drewN ?_ _) | (with_reducible refine LaterOf.later ?_ _) | (with_reducible refine LaterOf.setCell ?_ (by first | exact Nat.le_refl _ | (simp; done) | omega | (simp; omega)) _))), HA.out⟩
            · exfalso
              rw [List.drop_eq_nil_of_le (by omega)] at hany
              cases hany
        · rw [if_pos ha] at hr
          obtain ⟨jb, rfl⟩ : ∃ q : Nat, j = q := ⟨j.toNat, by omega⟩
          have DJ := DK jb
          have hnj := hnx jb
          have hj1 : jb < L.length := by omega
          generalize dispatchV ⟨sA, sc, cals, sB, sd, R, most⟩ L l jb = dv at *
          have HG := Lib.hid (And.intro hob (And.intro hoe (And.intro hne (And.intro hnm (And.intro hr (And.intro hnj (And.intro hj1 e2)))))))
          clear hob hoe hne hnm hr hnj hnx DK ha e2
          go_wp2_with fail
          go_loopg [12] l.length (fun gas s12 wr => ∃ i : Nat, i ≤ l.length ∧ l.length - i ≤ gas ∧ s12 = .int .i64 i ∧ LaterOf z.wd wr ∧ (l.drop i).any (fun y => y.job == (jb : Int)) = false)
          case atStart => exact ⟨0, by omega, by omega, rfl, by (repeat (first | (with_reducible exact LaterOf.refl _) | (with_reducible refine LaterOf.alloc ?_ _) | (with_reducible refine LaterOf.drew ?_) | (with_reducible refine LaterOf.drewN ?_ _) | (with_reducible refine LaterOf.later ?_ _) | (with_reducible refine LaterOf.setCell ?_ (by first | exact Nat.le_refl _ | (simp; done) | omega | (simp; omega)) _))), by rw [List.drop_zero]; exact HG.out.2.2.2.2.2.2.2⟩
          case round =>
            obtain ⟨i, hi, hgas2, rfl, ⟨z2, rfl⟩, hany⟩ := hrel
            by_cases hlti : i < l.length
            · rw [any_drop _ hlti, Bool.or_eq_false_iff] at hany
              obtain ⟨e, hany⟩ := hany
              obtain ⟨g, off, rfl, hrs⟩ := ((HG.out.1.isRow encS_len).of (show SinceOf z.wd z2.wd by (repeat (first | (with_reducible exact SinceOf.refl _) | (with_reducible assumption) | (with_reducible refine SinceOf.alloc ?_ _) | (with_reducible refine SinceOf.drew ?_) | (with_reducible refine SinceOf.drewN ?_ _) | (with_reducible refine SinceOf.later ?_ _) | (with_reducible refine SinceOf.further ?_ _) | (with_reducible refine SinceOf.setCell ?_ (by first | exact Nat.le_refl _ | (simp; done) | omega | (simp; omega)) _))))).at_ (by omega)
              have hO := hrs.there
              have s0 := hrs.s0 i hlti
              generalize l[i].job = yj at *
              have HA := Lib.hid hany
              clear hrs hany
              go_wp2_with fail
              refine region_later (by kernel_rfl) (by kernel_rfl) ?_
              repeat (go_big_quiet_step (fail))
              refine wpQuiet_nil ?_
              rintro _ ⟨z3, rfl⟩
              go_wp2_with fail
              go_roundg (l.length - (i + 1))
              case measure => omega
              case rel => exact ⟨i + 1, hlti, Nat.le_refl _, by go_num, by (repeat (first | (with_reducible exact LaterOf.refl _) | (with_reducible refine LaterOf.alloc ?_ _) | (with_reducible refine LaterOf.drew ?_) | (with_reducible refine LaterOf.drewN ?_ _) | (with_reducible refine LaterOf.later ?_ _) | (with_reducible refine LaterOf.setCell ?_ (by first | exact Nat.le_refl _ | (simp; done) | omega | (simp; omega)) _))), HA.out⟩
            · have hil : ¬ i < l.length := hlti
              clear hany
              rw [slotOpt_eq] at DJ
              go_wp2_with fail
              go_cut [13, 14] (fun s13 s14 wx => ∃ g : Nat, s13 = .pointer (some ⟨g, 0, none⟩) ∧ s14 = .bool dv.isSome ∧ SlotAt wx g (slotOr dv) ∧ SinceOf z2.wd wx)
              case first =>
                go_region_held3 (fun w' => w'.cell? ⟨w.heap.size, 0, none⟩ = some (.slice sA cals.length sc) ∧ w'.cell? ⟨w.heap.size, 1, none⟩ = some (.slice sB R.length sd) ∧ w'.cell? ⟨w.heap.size, 2, none⟩ = some (.int .i64 most) ∧ w'.cell? ⟨go, oo + k, none⟩ = some (.int .i64 jb)) ((simp [go_sem, *]))
                  (first
                    | (go_at_call 32; (with_reducible refine (DJ _ (by (repeat (first | (with_reducible exact SinceOf.refl _) | (with_reducible assumption) | (with_reducible refine SinceOf.alloc ?_ _) | (with_reducible refine SinceOf.drew ?_) | (with_reducible refine SinceOf.drewN ?_ _) | (with_reducible refine SinceOf.later ?_ _) | (with_reducible refine SinceOf.further ?_ _) | (with_reducible refine SinceOf.setCell ?_ (by first | exact Nat.le_refl _ | (simp; done) | omega | (simp; omega)) _)))) ((HG.out.1.isRow encS_len).of (by (repeat (first | (with_reducible exact SinceOf.refl _) | (with_reducible assumption) | (with_reducible refine SinceOf.alloc ?_ _) | (with_reducible refine SinceOf.drew ?_) | (with_reducible refine SinceOf.drewN ?_ _) | (with_reducible refine SinceOf.later ?_ _) | (with_reducible refine SinceOf.further ?_ _) | (with_reducible refine SinceOf.setCell ?_ (by first | exact Nat.le_refl _ | (simp; done) | omega | (simp; omega)) _))))) (by omega) HG.out.2.2.2.1 HG.out.2.2.2.2.2.2.1).calls.mono ?_); rintro e _ ⟨rfl, x3, rfl⟩))
                all_goals go_wp2_with fail
                all_goals go_meet
                all_goals
                  have e1 := x3.size
                  (try simp at e1)
                  exact ⟨_, rfl, rfl, ⟨by simp [go_sem], by simp [go_sem], by simp [go_sem], by simp [go_sem], inferInstance⟩, by (repeat (first | (with_reducible exact SinceOf.refl _) | (with_reducible assumption) | (with_reducible refine SinceOf.alloc ?_ _) | (with_reducible refine SinceOf.drew ?_) | (with_reducible refine SinceOf.drewN ?_ _) | (with_reducible refine SinceOf.later ?_ _) | (with_reducible refine SinceOf.further ?_ _) | (with_reducible refine SinceOf.setCell ?_ (by first | exact Nat.le_refl _ | (simp; done) | omega | (simp; omega)) _)))⟩
              case rest =>
                obtain ⟨g, rfl, rfl, ⟨g0, g1, g2, g3, hOg⟩, ⟨z4, rfl⟩⟩ := hcut
                clear DJ
                have hz2 := z2.size
                have hz4 := z4.size
                cases dv with
                | none =>
                  clear g0 g1 g2 g3
                  go_wp2_with (at_builtin; refine wpList_append_row rfl (.tmp 71) (.tmp 76) 51 rfl encN_len (by omega) encN_one n0 _ 8 Try.underlying51 NI.out.1 NI.out.2.1 NI.out.2.2.1 NI.out.2.2.2 rfl (l := left) (A := E) (c := f) (base := w.heap.size + 1) rfl (HG.out.2.1.of (by (repeat (first | (with_reducible exact SinceOf.refl _) | (with_reducible assumption) | (with_reducible refine SinceOf.alloc ?_ _) | (with_reducible refine SinceOf.drew ?_) | (with_reducible refine SinceOf.drewN ?_ _) | (with_reducible refine SinceOf.later ?_ _) | (with_reducible refine SinceOf.further ?_ _) | (with_reducible refine SinceOf.setCell ?_ (by first | exact Nat.le_refl _ | (simp; done) | omega | (simp; omega)) _))))) (m := [(jb : Int)]) rfl (rowN_at _ _ _ _ (by first | rfl | simp)) (by unfold maxLen; simp; omega) (by simp; omega) (by have h1 := z.size; simp at h1 ⊢; omega) ?_; intro E3 f3 w3 hown3 hgr3 hbl3)
                  go_roundg (order.length - (k + 1))
                  case measure => omega
                  case rel =>
                    have hbB := HG.out.1.below
                    refine ⟨k + 1, l, left ++ [(jb : Int)], B, b, E3, f3, hlt, Nat.le_refl _, rfl, by rw [List.length_append]; rfl, by go_num, ?_, hown3, ?_, by omega, by simp; omega, HG.out.2.2.2.1, ?_, HG.out.2.2.2.2.1⟩
                    · refine (HG.out.1.of (by (repeat (first | (with_reducible exact SinceOf.refl _) | (with_reducible assumption) | (with_reducible refine SinceOf.alloc ?_ _) | (with_reducible refine SinceOf.drew ?_) | (with_reducible refine SinceOf.drewN ?_ _) | (with_reducible refine SinceOf.later ?_ _) | (with_reducible refine SinceOf.further ?_ _) | (with_reducible refine SinceOf.setCell ?_ (by first | exact Nat.le_refl _ | (simp; done) | omega | (simp; omega)) _))))).kept hgr3 ?_
                      cases hq : blockOf B with
                      | none => exact .inl rfl
                      | some q => exact .inr (fun e => HG.out.2.2.1 q hq e.symm)
                    · intro q hq e
                      rcases hbl3 with h | h
                      · rw [h] at e; exact HG.out.2.2.1 q hq e
                      · rw [h] at e; simp at e; have := (hbB q hq).2; omega
                    · exact SinceOf.grown (by (repeat (first | (with_reducible exact SinceOf.refl _) | (with_reducible assumption) | (with_reducible refine SinceOf.alloc ?_ _) | (with_reducible refine SinceOf.drew ?_) | (with_reducible refine SinceOf.drewN ?_ _) | (with_reducible refine SinceOf.later ?_ _) | (with_reducible refine SinceOf.further ?_ _) | (with_reducible refine SinceOf.setCell ?_ (by first | exact Nat.le_refl _ | (simp; done) | omega | (simp; omega)) _)))) hgr3 (fun q hq => by have := (HG.out.2.1.below q hq).1; simpa using this)
                | some x =>
                  simp only [slotOr, Option.getD_some] at g0 g1 g2 g3
                  go_wp2_with (at_builtin; refine wpList_append_row rfl (.tmp 67) (.tmp 69) 29 rfl encS_len (by omega) encS_one i0 _ 32 Try.underlying29 HI.out.1 HI.out.2.1 HI.out.2.2.1 HI.out.2.2.2 rfl (l := l) (A := B) (c := b) (base := w.heap.size + 1) rfl (HG.out.1.of (by (repeat (first | (with_reducible exact SinceOf.refl _) | (with_reducible assumption) | (with_reducible refine SinceOf.alloc ?_ _) | (with_reducible refine SinceOf.drew ?_) | (with_reducible refine SinceOf.drewN ?_ _) | (with_reducible refine SinceOf.later ?_ _) | (with_reducible refine SinceOf.further ?_ _) | (with_reducible refine SinceOf.setCell ?_ (by first | exact Nat.le_refl _ | (simp; done) | omega | (simp; omega)) _))))) (m := [x]) rfl (rowS_at _ _ x _ (by first | rfl | simp)) (by unfold maxLen; simp; omega) (by simp; omega) (by have h1 := z.size; simp at h1 ⊢; omega) ?_; intro B3 b3 w3 hown3 hgr3 hbl3)
                  go_roundg (order.length - (k + 1))
                  case measure => omega
                  case rel =>
                    have hbE := HG.out.2.1.below
                    refine ⟨k + 1, l ++ [x], left, B3, b3, E, f, hlt, Nat.le_refl _, by rw [List.length_append]; rfl, rfl, by go_num, hown3, ?_, ?_, by simp; omega, by omega, HG.out.2.2.2.2.2.1 x HG.out.2.2.2.2.2.2.1 HG.out.2.2.2.1 rfl, ?_, HG.out.2.2.2.2.1⟩
                    · refine (HG.out.2.1.of (by (repeat (first | (with_reducible exact SinceOf.refl _) | (with_reducible assumption) | (with_reducible refine SinceOf.alloc ?_ _) | (with_reducible refine SinceOf.drew ?_) | (with_reducible refine SinceOf.drewN ?_ _) | (with_reducible refine SinceOf.later ?_ _) | (with_reducible refine SinceOf.further ?_ _) | (with_reducible refine SinceOf.setCell ?_ (by first | exact Nat.le_refl _ | (simp; done) | omega | (simp; omega)) _))))).kept hgr3 ?_
                      cases hq : blockOf E with
                      | none => exact .inl rfl
                      | some q => exact .inr (fun e => HG.out.2.2.1 q e.symm hq)
                    · intro q hq e
                      rcases hbl3 with h | h
                      · rw [h] at hq; exact HG.out.2.2.1 q hq e
                      · rw [h] at hq; simp at hq; have := (hbE q e).2; omega
                    · exact SinceOf.grown (by (repeat (first | (with_reducible exact SinceOf.refl _) | (with_reducible assumption) | (with_reducible refine SinceOf.alloc ?_ _) | (with_reducible refine SinceOf.drew ?_) | (with_reducible refine SinceOf.drewN ?_ _) | (with_reducible refine SinceOf.later ?_ _) | (with_reducible refine SinceOf.further ?_ _) | (with_reducible refine SinceOf.setCell ?_ (by first | exact Nat.le_refl _ | (simp; done) | omega | (simp; omega)) _)))) hgr3 (fun q hq => by have := (HG.out.1.below q hq).1; simpa using this)
      · have hkl : k = order.length := by omega
        rw [hkl, List.drop_length, listGo] at hr
        have HG := Lib.hid (And.intro hob (And.intro hoe hr))
        clear hob hoe hr hne hnm hkl
        go_wp2_with fail
        go_returns
        rw [HG.out.2.2]
        exact ⟨B, b, E, f, rfl, HG.out.1.isRow encS_len, HG.out.1.le_cap, HG.out.2.1.isRow encN_len, by (repeat (first | (with_reducible exact SinceOf.refl _) | (with_reducible assumption) | (with_reducible refine SinceOf.alloc ?_ _) | (with_reducible refine SinceOf.drew ?_) | (with_reducible refine SinceOf.drewN ?_ _) | (with_reducible refine SinceOf.later ?_ _) | (with_reducible refine SinceOf.further ?_ _) | (with_reducible refine SinceOf.setCell ?_ (by first | exact Nat.le_refl _ | (simp; done) | omega | (simp; omega)) _)))⟩
end Go.Proofs.Ytdcncalcncomoaa
/- Layer 52 (the reference): Price. -/
namespace Go.Proofs.Ytdcncalcncomoaa
open Go.RowKit Go.Sort
set_option linter.unusedVariables false
attribute [local go_sem ↓] Go.wp_at_zero Go.wp_at_succ

/-- How many of the first jobs have no slot. -/
def missTo (l : List SlotR) (i : Nat) : Int := ((List.range i).countP (fun j => !hasB l j) : Nat)
theorem missTo_succ (l : List SlotR) (i : Nat) : missTo l (i + 1) = missTo l i + (if hasB l i = true then 0 else 1) := by
  unfold missTo; rw [List.range_succ, List.countP_append]
  simp only [List.countP_singleton]
  cases hasB l i <;> simp
theorem missTo_all (l : List SlotR) : ∀ n, missTo l n = missN n l
  | 0 => by simp [missTo, missN]
  | n + 1 => by
    rw [missTo_succ, missTo_all l n]
    unfold missN
    rw [List.range_succ, List.countP_append]
    simp only [List.countP_singleton]
    cases hasB l n <;> simp <;> omega
theorem missTo_bounds (l : List SlotR) (i : Nat) : 0 ≤ missTo l i ∧ missTo l i ≤ i := by
  rw [missTo_all]; exact missN_bounds i l
set_option maxRecDepth 100000 in
set_option maxHeartbeats 8000000 in
theorem refPrice_any (A : Option Addr) (c : Nat) (L : List JobR) (B : Option Addr) (d : Nat) (l : List SlotR) (w : World) (h : IsJobs w A c L) (hL : L.length < 1073741824) (hdue : ∀ j ∈ L, 0 ≤ j.due ∧ j.due ≤ 1000000) (hl : IsSlots w B d l) (hll : l.length < 1073741824) (hn : ∀ x ∈ l, (0 ≤ x.job ∧ x.job < L.length) ∧ 0 ≤ x.stop ∧ x.stop ≤ 1000000) :
    Yields Try.prog 22 #[.slice A L.length c, .slice B l.length d] w (slotV (priceV L l)) := by
  apply Yields.ret
  have H := Lib.hid (And.intro h (And.intro hdue (And.intro hl hn)))
  obtain ⟨pv, hpv0⟩ : ∃ v, v = priceV L l := ⟨_, rfl⟩
  rw [← hpv0]
  have HP := Lib.hid hpv0
  clear h hdue hl hn hpv0
  go_enter Try.func22, Try.ntmps22
  go_wp2_with fail
  go_loopg [6] L.length (fun gas s6 wr => ∃ i : Nat, i ≤ L.length ∧ L.length - i ≤ gas ∧ s6 = .int .i64 i ∧ SinceOf (w.alloc (.cells #[.int .i64 0, .int .i64 0, .int .i64 0, .int .i64 0] 70)) wr ∧ SlotW wr (w.heap.size + 1) ⟨missTo l i, 0, 0, 0⟩)
  case atStart => exact ⟨0, by omega, by omega, rfl, by (repeat (first | (with_reducible exact SinceOf.refl _) | (with_reducible assumption) | (with_reducible refine SinceOf.alloc ?_ _) | (with_reducible refine SinceOf.drew ?_) | (with_reducible refine SinceOf.drewN ?_ _) | (with_reducible refine SinceOf.later ?_ _) | (with_reducible refine SinceOf.further ?_ _) | (with_reducible refine SinceOf.setCell ?_ (by first | exact Nat.le_refl _ | (simp; done) | omega | (simp; omega)) _))), ⟨by simp [go_sem, missTo], by simp [go_sem], by simp [go_sem], by simp [go_sem], by simp [go_sem], by simp [go_sem], by simp [go_sem], by simp [go_sem], inferInstance⟩⟩
  case round =>
    obtain ⟨i, hi, hgas, rfl, ⟨z, rfl⟩, hsw⟩ := hrel
    by_cases hlt : i < L.length
    · have hms := missTo_succ l i
      have hM := missTo_bounds l i
      generalize missTo l i = M at *
      have HS := Lib.hid (And.intro hsw hms)
      clear hsw hms
      go_wp2_with fail
      go_loopg [7, 8] l.length (fun gas s7 s8 wr => ∃ k : Nat, k ≤ l.length ∧ l.length - k ≤ gas ∧ s7 = .bool (!((l.take k).any fun y => y.job == (i : Int))) ∧ s8 = .int .i64 k ∧ LaterOf z.wd wr)
      case atStart => exact ⟨0, by omega, by omega, rfl, rfl, by (repeat (first | (with_reducible exact LaterOf.refl _) | (with_reducible refine LaterOf.alloc ?_ _) | (with_reducible refine LaterOf.drew ?_) | (with_reducible refine LaterOf.drewN ?_ _) | (with_reducible refine LaterOf.later ?_ _) | (with_reducible refine LaterOf.setCell ?_ (by first | exact Nat.le_refl _ | (simp; done) | omega | (simp; omega)) _)))⟩
      case round =>
        obtain ⟨k, hk, hgas2, rfl, rfl, ⟨z2, rfl⟩⟩ := hrel
        by_cases hltk : k < l.length
        · have hat := any_take_succ (fun y : SlotR => y.job == (i : Int)) hltk
          obtain ⟨gs, os, rfl, hrs⟩ := (H.out.2.2.1.of (show SinceOf w z2.wd by (repeat (first | (with_reducible exact SinceOf.refl _) | (with_reducible assumption) | (with_reducible refine SinceOf.alloc ?_ _) | (with_reducible refine SinceOf.drew ?_) | (with_reducible refine SinceOf.drewN ?_ _) | (with_reducible refine SinceOf.later ?_ _) | (with_reducible refine SinceOf.further ?_ _) | (with_reducible refine SinceOf.setCell ?_ (by first | exact Nat.le_refl _ | (simp; done) | omega | (simp; omega)) _))))).at_ (by omega)
          have hOs := hrs.there
          have s0 := hrs.s0 k hltk
          generalize l[k].job = xj at *
          generalize ((l.take k).any fun y => y.job == (i : Int)) = q at *
          have HA := Lib.hid hat
          clear hrs hat
          cases q
          all_goals
            simp only [Bool.not_false, Bool.not_true]
            go_wp2_with fail
            go_roundg (l.length - (k + 1))
            case measure => omega
            case rel => exact ⟨k + 1, hltk, Nat.le_refl _, by rw [HA.out]; first | rfl | simp [bne], by go_num, by (repeat (first | (with_reducible exact LaterOf.refl _) | (with_reducible refine LaterOf.alloc ?_ _) | (with_reducible refine LaterOf.drew ?_) | (with_reducible refine LaterOf.drewN ?_ _) | (with_reducible refine LaterOf.later ?_ _) | (with_reducible refine LaterOf.setCell ?_ (by first | exact Nat.le_refl _ | (simp; done) | omega | (simp; omega)) _)))⟩
        · have hkl : k = l.length := by omega
          have e : ((l.take k).any fun y => y.job == (i : Int)) = hasB l i := by rw [hkl, List.take_length]; rfl
          rw [e]
          have hms := HS.out.2
          have hsw := HS.out.1.of (LaterOf.since ⟨z2, rfl⟩)
          generalize hasB l i = q at *
          clear e hkl
          have HM := Lib.hid (And.intro hms hsw)
          obtain ⟨b0, b1, b2, b3, e0, e1, e2, e3, hOp⟩ := hsw
          clear hms
          cases q
          · simp only [Bool.not_false]
            go_wp2_with fail
            go_roundg (L.length - (i + 1))
            case measure => omega
            case rel => exact ⟨i + 1, hlt, Nat.le_refl _, by go_num, by (repeat (first | (with_reducible exact SinceOf.refl _) | (with_reducible assumption) | (with_reducible refine SinceOf.alloc ?_ _) | (with_reducible refine SinceOf.drew ?_) | (with_reducible refine SinceOf.drewN ?_ _) | (with_reducible refine SinceOf.later ?_ _) | (with_reducible refine SinceOf.further ?_ _) | (with_reducible refine SinceOf.setCell ?_ (by first | exact Nat.le_refl _ | (simp; done) | omega | (simp; omega)) _))), by rw [HM.out.1, if_neg (by simp)]; exact HM.out.2.set0 (M + 1)⟩
          · simp only [Bool.not_true]
            go_wp2_with fail
            go_roundg (L.length - (i + 1))
            case measure => omega
            case rel => exact ⟨i + 1, hlt, Nat.le_refl _, by go_num, by (repeat (first | (with_reducible exact SinceOf.refl _) | (with_reducible assumption) | (with_reducible refine SinceOf.alloc ?_ _) | (with_reducible refine SinceOf.drew ?_) | (with_reducible refine SinceOf.drewN ?_ _) | (with_reducible refine SinceOf.later ?_ _) | (with_reducible refine SinceOf.further ?_ _) | (with_reducible refine SinceOf.setCell ?_ (by first | exact Nat.le_refl _ | (simp; done) | omega | (simp; omega)) _))), by rw [HM.out.1, if_pos (by trivial), Int.add_zero]; exact HM.out.2⟩
    · have hil : i = L.length := by omega
      rw [hil, missTo_all] at hsw
      have hM := missN_bounds L.length l
      have hpm : priceV L l = ⟨missN L.length l, tardyL L l, worstL L l, endL l⟩ := rfl
      generalize missN L.length l = M at *
      have HS := Lib.hid (And.intro hsw hpm)
      clear hsw hpm hil
      go_wp2_with fail
      go_loopg [9] l.length (fun gas s9 wr => ∃ k : Nat, k ≤ l.length ∧ l.length - k ≤ gas ∧ s9 = .int .i64 k ∧ SinceOf (w.alloc (.cells #[.int .i64 0, .int .i64 0, .int .i64 0, .int .i64 0] 70)) wr ∧ SlotW wr (w.heap.size + 1) ⟨M, tardyL L (l.take k), worstL L (l.take k), endL (l.take k)⟩)
      case atStart => exact ⟨0, by omega, by omega, rfl, by (repeat (first | (with_reducible exact SinceOf.refl _) | (with_reducible assumption) | (with_reducible refine SinceOf.alloc ?_ _) | (with_reducible refine SinceOf.drew ?_) | (with_reducible refine SinceOf.drewN ?_ _) | (with_reducible refine SinceOf.later ?_ _) | (with_reducible refine SinceOf.further ?_ _) | (with_reducible refine SinceOf.setCell ?_ (by first | exact Nat.le_refl _ | (simp; done) | omega | (simp; omega)) _))), HS.out.1⟩
      case round =>
        obtain ⟨k, hk, hgas2, rfl, hsi, hsw⟩ := hrel
        by_cases hltk : k < l.length
        · have hSw : SinceOf w wr := SinceOf.trans ((SinceOf.refl w).alloc _) hsi
          have hrow := H.out.2.2.1.of hSw
          obtain ⟨⟨hj0, hj1⟩, ht0, ht1⟩ := H.out.2.2.2 _ (List.getElem_mem hltk)
          obtain ⟨jn, hjn⟩ : ∃ q : Nat, l[k].job = q := ⟨l[k].job.toNat, by omega⟩
          have hjl : jn < L.length := by omega
          obtain ⟨hd0, hd1⟩ := H.out.2.1 _ (List.getElem_mem hjl)
          have hlate : lateOf L l[k] = l[k].stop - L[jn].due := by unfold lateOf; rw [hjn, jobAt_at hjl]
          have hT := tardyL_bounds L (l.take k) (fun y hy => by
            obtain ⟨⟨a1, a2⟩, a3, a4⟩ := H.out.2.2.2 y (List.mem_of_mem_take hy)
            unfold lateOf
            have : 0 ≤ (jobAt L y.job).due := by
              have := jobAt_at (L := L) (m := y.job.toNat) (by omega)
              rw [show ((y.job.toNat : Nat) : Int) = y.job by omega] at this
              rw [this]
              exact (H.out.2.1 _ (List.getElem_mem (by omega))).1
            omega)
          rw [List.length_take, Nat.min_eq_left hk] at hT
          have hpe : (⟨M, tardyL L (l.take (k + 1)), worstL L (l.take (k + 1)), endL (l.take (k + 1))⟩ : SlotR) = ⟨M, tardyL L (l.take k) + (if 0 < l[k].stop - L[jn].due then l[k].stop - L[jn].due else 0), if 0 < l[k].stop - L[jn].due then imax (worstL L (l.take k)) (l[k].stop - L[jn].due) else worstL L (l.take k), imax (endL (l.take k)) l[k].stop⟩ := by
            rw [List.take_succ_eq_append_getElem hltk, tardyL_append]
            simp only [tardyL, worstL, endL, List.foldl_append, List.foldl_cons, List.foldl_nil, hlate]
            simp
          generalize tardyL L (l.take k) = T at *
          generalize worstL L (l.take k) = Wo at *
          generalize endL (l.take k) = En at *
          have HG := Lib.hid (And.intro hpe (And.intro hsi hsw))
          have HK := Lib.hid (And.intro hlate hjn)
          clear hpe hsi hsw hlate
          go_upto_region 15 with fail
          go_cut [9] (fun s9 wx => s9 = .int .i64 k ∧ SlotW wx (w.heap.size + 1) ⟨M, T, Wo, imax En l[k].stop⟩ ∧ SinceOf (w.alloc (.cells #[.int .i64 0, .int .i64 0, .int .i64 0, .int .i64 0] 70)) wx)
          case first =>
            obtain ⟨gs, os, rfl, hrs⟩ := hrow.at_ (by omega)
            have hOs := hrs.there
            have s3 := hrs.s3 k hltk
            generalize l[k].stop = xe at *
            obtain ⟨p0, p1, p2, p3, e0, e1, e2, e3, hOp⟩ := HG.out.2.2
            clear hrs hrow hSw hjn
            go_big_region
            go_wp2_with fail
            go_meet
            exact ⟨rfl, by first | exact HG.out.2.2.set3 (imax En xe) | exact (HG.out.2.2.set3 (imax En xe)).of ((SinceOf.refl _).drew), by (have h9 := HG.out.2.1; (repeat (first | (with_reducible exact SinceOf.refl _) | (with_reducible assumption) | (with_reducible refine SinceOf.alloc ?_ _) | (with_reducible refine SinceOf.drew ?_) | (with_reducible refine SinceOf.drewN ?_ _) | (with_reducible refine SinceOf.later ?_ _) | (with_reducible refine SinceOf.further ?_ _) | (with_reducible refine SinceOf.setCell ?_ (by first | exact Nat.le_refl _ | (simp; done) | omega | (simp; omega)) _))))⟩
          case rest =>
            obtain ⟨rfl, hsw, hsi⟩ := hcut
            clear hrow hSw
            obtain ⟨z5, rfl⟩ := hsi
            obtain ⟨gs, os, rfl, hrs⟩ := (H.out.2.2.1.of (show SinceOf w z5.wd by (repeat (first | (with_reducible exact SinceOf.refl _) | (with_reducible assumption) | (with_reducible refine SinceOf.alloc ?_ _) | (with_reducible refine SinceOf.drew ?_) | (with_reducible refine SinceOf.drewN ?_ _) | (with_reducible refine SinceOf.later ?_ _) | (with_reducible refine SinceOf.further ?_ _) | (with_reducible refine SinceOf.setCell ?_ (by first | exact Nat.le_refl _ | (simp; done) | omega | (simp; omega)) _))))).at_ (by omega)
            have hOs := hrs.there
            have s0 := hrs.s0 k hltk
            have s3 := hrs.s3 k hltk
            obtain ⟨gj, oj, rfl, hrj⟩ := (H.out.1.row.of (show SinceOf w z5.wd by (repeat (first | (with_reducible exact SinceOf.refl _) | (with_reducible assumption) | (with_reducible refine SinceOf.alloc ?_ _) | (with_reducible refine SinceOf.drew ?_) | (with_reducible refine SinceOf.drewN ?_ _) | (with_reducible refine SinceOf.later ?_ _) | (with_reducible refine SinceOf.further ?_ _) | (with_reducible refine SinceOf.setCell ?_ (by first | exact Nat.le_refl _ | (simp; done) | omega | (simp; omega)) _))))).at_ (by omega)
            have hOj := hrj.there
            have j4 := hrj.j4 jn hjl
            rw [HK.out.2] at s0
            generalize l[k].stop = xe at *
            generalize L[jn].due = du at *
            have HW := Lib.hid hsw
            obtain ⟨p0, p1, p2, p3, e0, e1, e2, e3, hOp⟩ := hsw
            have d0 : ¬ (jn : Int) < 0 := by omega
            have d1 : ¬ (L.length : Int) ≤ jn := by omega
            clear hrs hrj hjn hj0 hj1
            by_cases hla : 0 < xe - du
            · have hlb : decide (0 < xe - du) = true := by simpa using hla
              go_wp2_with fail
              refine region_later (by kernel_rfl) (by kernel_rfl) ?_
              repeat (go_big_quiet_step (fail))
              refine wpQuiet_nil ?_
              rintro _ ⟨z6, rfl⟩
              go_wp2_with fail
              go_roundg (l.length - (k + 1))
              case measure => omega
              case rel =>
                refine ⟨k + 1, hltk, Nat.le_refl _, by go_num, by (repeat (first | (with_reducible exact SinceOf.refl _) | (with_reducible assumption) | (with_reducible refine SinceOf.alloc ?_ _) | (with_reducible refine SinceOf.drew ?_) | (with_reducible refine SinceOf.drewN ?_ _) | (with_reducible refine SinceOf.later ?_ _) | (with_reducible refine SinceOf.further ?_ _) | (with_reducible refine SinceOf.setCell ?_ (by first | exact Nat.le_refl _ | (simp; done) | omega | (simp; omega)) _))), ?_⟩
                rw [HG.out.1, if_pos hla, if_pos hla]
                exact (((HW.out.of (LaterOf.since ⟨z6, rfl⟩)).set1 (T + (xe - du))).set2 (imax Wo (xe - du)))
            · have hlb : decide (0 < xe - du) = false := by simpa using hla
              go_wp2_with fail
              refine region_later (by kernel_rfl) (by kernel_rfl) ?_
              repeat (go_big_quiet_step (fail))
              refine wpQuiet_nil ?_
              rintro _ ⟨z6, rfl⟩
              go_wp2_with fail
              go_roundg (l.length - (k + 1))
              case measure => omega
              case rel =>
                refine ⟨k + 1, hltk, Nat.le_refl _, by go_num, by (repeat (first | (with_reducible exact SinceOf.refl _) | (with_reducible assumption) | (with_reducible refine SinceOf.alloc ?_ _) | (with_reducible refine SinceOf.drew ?_) | (with_reducible refine SinceOf.drewN ?_ _) | (with_reducible refine SinceOf.later ?_ _) | (with_reducible refine SinceOf.further ?_ _) | (with_reducible refine SinceOf.setCell ?_ (by first | exact Nat.le_refl _ | (simp; done) | omega | (simp; omega)) _))), ?_⟩
                rw [HG.out.1, if_neg (by omega), if_neg (by omega), Int.add_zero]
                exact HW.out.of (LaterOf.since ⟨z6, rfl⟩)
        · have hkl : k = l.length := by omega
          rw [hkl, List.take_length, ← HS.out.2, ← HP.out] at hsw
          obtain ⟨p0, p1, p2, p3, e0, e1, e2, e3, hOp⟩ := hsw
          obtain ⟨z5, rfl⟩ := hsi
          clear hkl
          go_wp2_with fail
          go_returns
          exact ⟨rfl, by (repeat (first | (with_reducible exact SinceOf.refl _) | (with_reducible assumption) | (with_reducible refine SinceOf.alloc ?_ _) | (with_reducible refine SinceOf.drew ?_) | (with_reducible refine SinceOf.drewN ?_ _) | (with_reducible refine SinceOf.later ?_ _) | (with_reducible refine SinceOf.further ?_ _) | (with_reducible refine SinceOf.setCell ?_ (by first | exact Nat.le_refl _ | (simp; done) | omega | (simp; omega)) _)))⟩
end Go.Proofs.Ytdcncalcncomoaa
/- Layer 52 (the reference): following, the next order. -/
namespace Go.Proofs.Ytdcncalcncomoaa
open Go.RowKit Go.Sort
set_option linter.unusedVariables false
attribute [local go_sem ↓] Go.wp_at_zero Go.wp_at_succ

def findI (l : List Int) : Nat → Option Nat
  | 0 => none
  | n + 1 => if l.getD (n + 1) 0 < l.getD n 0 then findI l n else some n
def findK (l : List Int) (v : Int) : Nat → Nat
  | 0 => 0
  | k + 1 => if l.getD (k + 1) 0 < v then findK l v k else k + 1
def swapI (l : List Int) (i k : Nat) : List Int := (l.set i (l.getD k 0)).set k (l.getD i 0)
def revF : Nat → List Int → Nat → Nat → List Int
  | 0, l, _, _ => l
  | f + 1, l, a, b => if a < b then revF f (swapI l a b) (a + 1) (b - 1) else l
def followV (l : List Int) : Option (List Int) := match findI l (l.length - 1) with
  | none => none
  | some i => some (revF l.length (swapI l i (findK l (l.getD i 0) (l.length - 1))) (i + 1) (l.length - 1))
theorem findI_succ (l : List Int) (n : Nat) : findI l (n + 1) = if l.getD (n + 1) 0 < l.getD n 0 then findI l n else some n := rfl
theorem findK_succ (l : List Int) (v : Int) (k : Nat) : findK l v (k + 1) = if l.getD (k + 1) 0 < v then findK l v k else k + 1 := rfl
theorem swapI_length (l : List Int) (i k : Nat) : (swapI l i k).length = l.length := by unfold swapI; simp
theorem revF_length : ∀ (f : Nat) (l : List Int) (a b : Nat), (revF f l a b).length = l.length
  | 0, l, a, b => rfl
  | f + 1, l, a, b => by
    unfold revF
    split
    · rw [revF_length f, swapI_length]
    · rfl
theorem revF_stop {l : List Int} {a b : Nat} (h : ¬ a < b) : ∀ f, revF f l a b = l
  | 0 => rfl
  | f + 1 => by unfold revF; rw [if_neg h]
theorem getI_at {l : List Int} {k : Nat} (h : k < l.length) : l.getD k 0 = l[k] := by rw [List.getD_eq_getElem?_getD, List.getElem?_eq_getElem h, Option.getD_some]
theorem Live.setN {w : World} {g : Nat} {l : List Int} (h : Live encN 1 w g 0 l) (i : Nat) (hi : i < l.length) (x : Int) : Live encN 1 (w.setCell ⟨g, i, none⟩ (.int .i64 x)) g 0 (l.set i x) := by
  have hO := h.row.there
  refine ⟨⟨fun m hm j u hu => ?_, inferInstance⟩, fun j hj => by rw [World.frozen?_setCell]; exact h.free j (by simpa using hj)⟩
  rw [List.length_set] at hm
  match j, hu with
  | j + 1, hu => simp [encN] at hu
  | 0, hu =>
    simp [encN] at hu
    by_cases e : i = m
    · subst e
      simp at hu
      subst hu
      have := h.row.n0 i hi
      simp at this
      simpa using World.cell?_setCell_same _ _ _ this
    · rw [List.getElem_set_ne e] at hu
      have := h.row.cells m hm 0 u (by simp [encN, hu])
      rw [World.cell?_setCell_other _ _ _ _ (by intro h2; injection h2 with h3 h4; simp at h4; omega)]
      exact this
theorem Live.swapN {w : World} {g : Nat} {l : List Int} (h : Live encN 1 w g 0 l) {i k : Nat} (hi : i < l.length) (hk : k < l.length) {x y : Int} (hx : l.getD k 0 = x) (hy : l.getD i 0 = y) : Live encN 1 ((w.setCell ⟨g, i, none⟩ (.int .i64 x)).setCell ⟨g, k, none⟩ (.int .i64 y)) g 0 (swapI l i k) := by
  subst hx hy
  exact (h.setN i hi _).setN k (by rw [List.length_set]; exact hk) _
set_option maxRecDepth 100000 in
set_option maxHeartbeats 8000000 in
theorem following_pos (A : Option Addr) (c : Nat) (l : List Int) (w : World) (h : IsInts w A c l) (hl0 : 0 < l.length) (hl : l.length < 1073741824) :
    Calls Try.prog 45 #[.slice A l.length c] w fun e w' => ∃ (B : Option Addr) (d : Nat), e = .returned (.tuple #[.slice B ((followV l).getD []).length d, .bool (followV l).isSome]) ∧ IsInts w' B d ((followV l).getD []) ∧ SinceOf w w' := by
  obtain ⟨i0, hi, hz0, hz1, hz2⟩ := info_parts infoInt
  have HI := Lib.hid (And.intro hi (And.intro hz0 (And.intro hz1 hz2)))
  have H := Lib.hid h
  obtain ⟨res, hres⟩ : ∃ v, v = followV l := ⟨_, rfl⟩
  rw [← hres]
  unfold followV at hres
  have HR := Lib.hid hres
  clear h hi hz0 hz1 hz2 hres
  go_enter Try.func45, Try.ntmps45
  go_wp2_with (at_builtin; refine wpList_append_row rfl (.tmp 9) (.tmp 10) 51 rfl encN_len (by omega) encN_one i0 _ 8 Try.underlying51 HI.out.1 HI.out.2.1 HI.out.2.2.1 HI.out.2.2.2 rfl (l := []) (A := some ⟨w.heap.size, 0, none⟩) (c := 0) (base := w.heap.size) rfl (World.ownsRow_lit w #[] 0 (Nat.le_refl _) (Nat.zero_le _) rfl) (m := l) rfl (H.out.of (SinceOf.alloc (SinceOf.refl w) _)) (by unfold maxLen; simp; omega) (by simp; omega) (by simp) ?_; intro A1 c1 w1 hown1 hgr1 hb1)
  obtain ⟨g, hg, hgb, hlv⟩ := hown1.live encN_len (by simpa using hl0)
  subst hg
  have hcap : l.length ≤ c1 := by have := hown1.le_cap; simpa using this
  have hs1 : SinceOf w w1 := ((SinceOf.refl w).alloc _).grown hgr1 (by intro k hk; simp [blockOf] at hk; omega)
  simp only [List.nil_append] at hlv
  have HL := Lib.hid hlv
  clear hown1 hgr1 hb1 hlv
  obtain ⟨x1, rfl⟩ := hs1
  have hOg := HL.out.row.there
  go_wp2_with fail
  go_loopg [5] l.length (fun gas s5 wr => ∃ n : Nat, n ≤ l.length - 1 ∧ n ≤ gas ∧ s5 = .int .i64 ((n : Int) - 1) ∧ LaterOf x1.wd wr ∧ findI l (l.length - 1) = findI l n)
  case atStart => exact ⟨l.length - 1, Nat.le_refl _, by omega, by rw [show ((l.length - 1 : Nat) : Int) - 1 = (l.length : Int) - 2 by omega], by (repeat (first | (with_reducible exact LaterOf.refl _) | (with_reducible refine LaterOf.alloc ?_ _) | (with_reducible refine LaterOf.drew ?_) | (with_reducible refine LaterOf.drewN ?_ _) | (with_reducible refine LaterOf.later ?_ _) | (with_reducible refine LaterOf.setCell ?_ (by first | exact Nat.le_refl _ | (simp; done) | omega | (simp; omega)) _))), rfl⟩
  case round =>
    obtain ⟨n, hn, hgas, rfl, ⟨z, rfl⟩, hf⟩ := hrel
    cases n with
    | zero =>
      rw [show (((0 : Nat) : Int) - 1) = -1 from rfl]
      have hr2 : res = none := by rw [HR.out, hf]; rfl
      have HX := Lib.hid hr2
      clear hf hr2
      go_wp2_with fail
      refine region_later (by kernel_rfl) (by kernel_rfl) ?_
      repeat (go_big_quiet_step (fail))
      refine wpQuiet_nil ?_
      rintro _ ⟨z2, rfl⟩
      go_wp2_with fail
      go_returns
      rw [HX.out]
      exact ⟨none, 0, rfl, IsRow.nil _ _ _, by (repeat (first | (with_reducible exact SinceOf.refl _) | (with_reducible assumption) | (with_reducible refine SinceOf.alloc ?_ _) | (with_reducible refine SinceOf.drew ?_) | (with_reducible refine SinceOf.drewN ?_ _) | (with_reducible refine SinceOf.later ?_ _) | (with_reducible refine SinceOf.further ?_ _) | (with_reducible refine SinceOf.setCell ?_ (by first | exact Nat.le_refl _ | (simp; done) | omega | (simp; omega)) _)))⟩
    | succ n =>
      rw [show (((n + 1 : Nat) : Int) - 1) = (n : Int) by omega]
      have hn1 : n + 1 < l.length := by omega
      rw [findI_succ, getI_at hn1, getI_at (show n < l.length by omega)] at hf
      have m0 := HL.out.row.n0 n (by omega)
      have m1 := HL.out.row.n0 (n + 1) hn1
      rw [Nat.zero_add] at m0 m1
      have hu : l.getD n 0 = l[n] := getI_at (by omega)
      have hv : l.getD (n + 1) 0 = l[n + 1] := getI_at hn1
      generalize l[n] = u at *
      generalize l[n + 1] = v at *
      by_cases hlt : v < u
      · rw [if_pos hlt] at hf
        have hd : decide (v < u) = true := by simpa using hlt
        have HX := Lib.hid hf
        clear hf hlt hu hv
        go_wp2_with fail
        refine region_later (by kernel_rfl) (by kernel_rfl) ?_
        repeat (go_big_quiet_step (fail))
        refine wpQuiet_nil ?_
        rintro _ ⟨z2, rfl⟩
        go_wp2_with fail
        go_roundg n
        case measure => omega
        case rel => exact ⟨n, by omega, Nat.le_refl _, by go_num, by (repeat (first | (with_reducible exact LaterOf.refl _) | (with_reducible refine LaterOf.alloc ?_ _) | (with_reducible refine LaterOf.drew ?_) | (with_reducible refine LaterOf.drewN ?_ _) | (with_reducible refine LaterOf.later ?_ _) | (with_reducible refine LaterOf.setCell ?_ (by first | exact Nat.le_refl _ | (simp; done) | omega | (simp; omega)) _))), HX.out⟩
      · rw [if_neg hlt] at hf
        have hd : decide (v < u) = false := by simpa using hlt
        have hr2 : res = some (revF l.length (swapI l n (findK l u (l.length - 1))) (n + 1) (l.length - 1)) := by rw [HR.out, hf]; simp only; rw [hu]
        have HX := Lib.hid (And.intro hr2 (And.intro hlt (And.intro hu hv)))
        clear hf hlt hu hv hr2
        go_wp2_with fail
        refine region_later (by kernel_rfl) (by kernel_rfl) ?_
        repeat (go_big_quiet_step (fail))
        refine wpQuiet_nil ?_
        rintro _ ⟨z2, rfl⟩
        clear m1 hd
        go_wp2_with fail
        go_loopg [6] l.length (fun gas s6 wr => ∃ k : Nat, n + 1 ≤ k ∧ k ≤ l.length - 1 ∧ k ≤ gas ∧ s6 = .int .i64 k ∧ LaterOf x1.wd wr ∧ findK l u (l.length - 1) = findK l u k)
        case atStart => exact ⟨l.length - 1, by omega, Nat.le_refl _, by omega, by rw [show ((l.length - 1 : Nat) : Int) = (l.length : Int) - 1 by omega], by (repeat (first | (with_reducible exact LaterOf.refl _) | (with_reducible refine LaterOf.alloc ?_ _) | (with_reducible refine LaterOf.drew ?_) | (with_reducible refine LaterOf.drewN ?_ _) | (with_reducible refine LaterOf.later ?_ _) | (with_reducible refine LaterOf.setCell ?_ (by first | exact Nat.le_refl _ | (simp; done) | omega | (simp; omega)) _))), rfl⟩
        case round =>
          obtain ⟨k, hk0, hk1, hgas2, rfl, ⟨z3, rfl⟩, hf⟩ := hrel
          obtain ⟨k, rfl⟩ : ∃ q, k = q + 1 := ⟨k - 1, by omega⟩
          have hkl : k + 1 < l.length := by omega
          rw [findK_succ] at hf
          have hy : l.getD (k + 1) 0 = l[k + 1] := getI_at hkl
          rw [hy] at hf
          have mk := HL.out.row.n0 (k + 1) hkl
          rw [Nat.zero_add] at mk
          generalize l[k + 1] = y at *
          by_cases hlt : y < u
          · rw [if_pos hlt] at hf
            have hne : n + 1 ≤ k := by
              rcases Nat.lt_or_ge n k with h9 | h9
              · omega
              · exfalso
                have e : k + 1 = n + 1 := by omega
                rw [e, HX.out.2.2.2] at hy
                have h8 := HX.out.2.1
                omega
            have hd : decide (y < u) = true := by simpa using hlt
            have HF := Lib.hid hf
            clear hf hlt hy
            go_wp2_with fail
            refine region_later (by kernel_rfl) (by kernel_rfl) ?_
            repeat (go_big_quiet_step (fail))
            refine wpQuiet_nil ?_
            rintro _ ⟨z4, rfl⟩
            go_wp2_with fail
            go_roundg k
            case measure => omega
            case rel => exact ⟨k, hne, by omega, Nat.le_refl _, by go_num, by (repeat (first | (with_reducible exact LaterOf.refl _) | (with_reducible refine LaterOf.alloc ?_ _) | (with_reducible refine LaterOf.drew ?_) | (with_reducible refine LaterOf.drewN ?_ _) | (with_reducible refine LaterOf.later ?_ _) | (with_reducible refine LaterOf.setCell ?_ (by first | exact Nat.le_refl _ | (simp; done) | omega | (simp; omega)) _))), HF.out⟩
          · rw [if_neg hlt] at hf
            have hd : decide (y < u) = false := by simpa using hlt
            have hr3 : res = some (revF l.length (swapI l n (k + 1)) (n + 1) (l.length - 1)) := by rw [HX.out.1, hf]
            have HF := Lib.hid (And.intro hr3 hy)
            clear hf hlt hy hr3
            go_wp2_with fail
            refine region_later (by kernel_rfl) (by kernel_rfl) ?_
            repeat (go_big_quiet_step (fail))
            refine wpQuiet_nil ?_
            rintro _ ⟨z4, rfl⟩
            clear hd
            go_upto_region 10 with fail
            go_cut [5] (fun s5 wx => s5 = .int .i64 n ∧ Live encN 1 wx g 0 (swapI l n (k + 1)) ∧ SinceOf w wx)
            case first =>
              have f0 := HL.out.free n (by omega)
              have f1 := HL.out.free (k + 1) (by omega)
              rw [Nat.zero_add] at f0 f1
              have hsw : SinceOf w z4.wd := by (repeat (first | (with_reducible exact SinceOf.refl _) | (with_reducible assumption) | (with_reducible refine SinceOf.alloc ?_ _) | (with_reducible refine SinceOf.drew ?_) | (with_reducible refine SinceOf.drewN ?_ _) | (with_reducible refine SinceOf.later ?_ _) | (with_reducible refine SinceOf.further ?_ _) | (with_reducible refine SinceOf.setCell ?_ (by first | exact Nat.le_refl _ | (simp; done) | omega | (simp; omega)) _)))
              have hlw : Live encN 1 z4.wd g 0 l := HL.out.of (by (repeat (first | (with_reducible exact SinceOf.refl _) | (with_reducible assumption) | (with_reducible refine SinceOf.alloc ?_ _) | (with_reducible refine SinceOf.drew ?_) | (with_reducible refine SinceOf.drewN ?_ _) | (with_reducible refine SinceOf.later ?_ _) | (with_reducible refine SinceOf.further ?_ _) | (with_reducible refine SinceOf.setCell ?_ (by first | exact Nat.le_refl _ | (simp; done) | omega | (simp; omega)) _))))
              have HZ := Lib.hid (And.intro hsw hlw)
              clear hsw hlw
              have hu := HX.out.2.2.1
              have hy := HF.out.2
              have a0 : z4.wd.cell? ⟨g, n, none⟩ = some (.int .i64 u) := by simp [go_sem, m0]
              have a1 : z4.wd.cell? ⟨g, k + 1, none⟩ = some (.int .i64 y) := by simp [go_sem, mk]
              have b0 : z4.wd.frozen? ⟨g, n, none⟩ = false := by simp [go_sem, f0]
              have b1 : z4.wd.frozen? ⟨g, k + 1, none⟩ = false := by simp [go_sem, f1]
              have hO4 : Nonempty (Old z4.wd g) := inferInstance
              have HU := Lib.hid (And.intro hu hy)
              clear m0 mk f0 f1 hu hy
              generalize z4.wd = wz at *
              go_big_region
              go_wp2_with fail
              go_meet
              exact ⟨rfl, by first | exact HZ.out.2.swapN (by omega) hkl HU.out.2 HU.out.1 | exact (HZ.out.2.swapN (by omega) hkl HU.out.2 HU.out.1).of ((SinceOf.refl _).drew), by (have h9 := HZ.out.1; (repeat (first | (with_reducible exact SinceOf.refl _) | (with_reducible assumption) | (with_reducible refine SinceOf.alloc ?_ _) | (with_reducible refine SinceOf.drew ?_) | (with_reducible refine SinceOf.drewN ?_ _) | (with_reducible refine SinceOf.later ?_ _) | (with_reducible refine SinceOf.further ?_ _) | (with_reducible refine SinceOf.setCell ?_ (by first | exact Nat.le_refl _ | (simp; done) | omega | (simp; omega)) _))))⟩
            case rest =>
              obtain ⟨rfl, hlv, ⟨z5, rfl⟩⟩ := hcut
              have hml : (swapI l n (k + 1)).length = l.length := swapI_length _ _ _
              have hr4 := HF.out.1
              generalize swapI l n (k + 1) = m at *
              have HM := Lib.hid (And.intro hlv hr4)
              clear hlv hr4 m0 mk
              go_wp2_with fail
              go_loopg [7, 8] l.length (fun gas s7 s8 wr => ∃ (f a b : Nat) (m : List Int), f ≤ gas ∧ s7 = .int .i64 a ∧ s8 = .int .i64 b ∧ m.length = l.length ∧ a ≤ l.length ∧ b < l.length ∧ b ≤ a + f ∧ Live encN 1 wr g 0 m ∧ SinceOf w wr ∧ res = some (revF f m a b))
              case atStart => exact ⟨l.length, n + 1, l.length - 1, m, Nat.le_refl _, by rw [show ((n + 1 : Nat) : Int) = (n : Int) + 1 by omega], by rw [show ((l.length - 1 : Nat) : Int) = (l.length : Int) - 1 by omega], hml, by omega, by omega, by omega, HM.out.1, by (repeat (first | (with_reducible exact SinceOf.refl _) | (with_reducible assumption) | (with_reducible refine SinceOf.alloc ?_ _) | (with_reducible refine SinceOf.drew ?_) | (with_reducible refine SinceOf.drewN ?_ _) | (with_reducible refine SinceOf.later ?_ _) | (with_reducible refine SinceOf.further ?_ _) | (with_reducible refine SinceOf.setCell ?_ (by first | exact Nat.le_refl _ | (simp; done) | omega | (simp; omega)) _))), HM.out.2⟩
              case round =>
                obtain ⟨f, a, b, m2, hf, rfl, rfl, hm2, ha, hb, hbf, hlv, hsi, hr⟩ := hrel
                by_cases hab : a < b
                · obtain ⟨f, rfl⟩ : ∃ q, f = q + 1 := ⟨f - 1, by omega⟩
                  unfold revF at hr
                  rw [if_pos hab] at hr
                  have p0 := hlv.row.n0 a (by omega)
                  have p1 := hlv.row.n0 b (by omega)
                  have f0 := hlv.free a (by omega)
                  have f1 := hlv.free b (by omega)
                  rw [Nat.zero_add] at p0 p1 f0 f1
                  have hOw := hlv.row.there
                  have hx : m2.getD a 0 = m2[a] := getI_at (by omega)
                  have hy : m2.getD b 0 = m2[b] := getI_at (by omega)
                  generalize m2[a] = u at *
                  generalize m2[b] = v at *
                  have HZ := Lib.hid (And.intro hlv (And.intro hsi (And.intro hr (And.intro hx hy))))
                  clear hlv hsi hr hx hy
                  go_upto_region 14 with fail
                  go_big_region
                  go_wp2_with fail
                  go_roundg f
                  case measure => omega
                  case rel =>
                    have hl9 := HZ.out.1.swapN (show a < m2.length by omega) (show b < m2.length by omega) HZ.out.2.2.2.2 HZ.out.2.2.2.1
                    refine ⟨f, a + 1, b - 1, swapI m2 a b, Nat.le_refl _, by go_num, by rw [show ((b - 1 : Nat) : Int) = (b : Int) - 1 by omega], by rw [swapI_length]; exact hm2, by omega, by omega, by omega, ?_, ?_, HZ.out.2.2.1⟩
                    · first | exact hl9 | exact hl9.of ((SinceOf.refl _).drew)
                    · have h9 := HZ.out.2.1
                      (repeat (first | (with_reducible exact SinceOf.refl _) | (with_reducible assumption) | (with_reducible refine SinceOf.alloc ?_ _) | (with_reducible refine SinceOf.drew ?_) | (with_reducible refine SinceOf.drewN ?_ _) | (with_reducible refine SinceOf.later ?_ _) | (with_reducible refine SinceOf.further ?_ _) | (with_reducible refine SinceOf.setCell ?_ (by first | exact Nat.le_refl _ | (simp; done) | omega | (simp; omega)) _)))
                · rw [revF_stop hab] at hr
                  have HZ := Lib.hid (And.intro hlv (And.intro hsi hr))
                  clear hlv hsi hr
                  go_wp2_with fail
                  go_returns
                  rw [HZ.out.2.2]
                  exact ⟨some ⟨g, 0, none⟩, c1, by simp only [Option.getD_some, hm2]; rfl, HZ.out.1.isRow, HZ.out.2.1⟩
set_option maxHeartbeats 2000000 in
theorem following_any (A : Option Addr) (c : Nat) (l : List Int) (w : World) (h : IsInts w A c l) (hl : l.length < 1073741824) :
    Calls Try.prog 45 #[.slice A l.length c] w fun e w' => ∃ (B : Option Addr) (d : Nat), e = .returned (.tuple #[.slice B ((followV l).getD []).length d, .bool (followV l).isSome]) ∧ IsInts w' B d ((followV l).getD []) ∧ SinceOf w w' := by
  by_cases hl0 : 0 < l.length
  · exact following_pos A c l w h hl0 hl
  · obtain rfl : l = [] := List.length_eq_zero_iff.1 (by omega)
    obtain ⟨i0, hi, hz0, hz1, hz2⟩ := info_parts infoInt
    have HI := Lib.hid (And.intro hi (And.intro hz0 (And.intro hz1 hz2)))
    have H := Lib.hid h
    clear h hi hz0 hz1 hz2 hl hl0
    go_enter Try.func45, Try.ntmps45
    go_wp2_with (at_builtin; refine wpList_append_row rfl (.tmp 9) (.tmp 10) 51 rfl encN_len (by omega) encN_one i0 _ 8 Try.underlying51 HI.out.1 HI.out.2.1 HI.out.2.2.1 HI.out.2.2.2 rfl (l := []) (A := some ⟨w.heap.size, 0, none⟩) (c := 0) (base := w.heap.size) rfl (World.ownsRow_lit w #[] 0 (Nat.le_refl _) (Nat.zero_le _) rfl) (m := []) rfl (H.out.of (SinceOf.alloc (SinceOf.refl w) _)) (by unfold maxLen; simp) (by simp) (by simp) ?_; intro A1 c1 w1 hown1 hgr1 hb1)
    have hs1 : SinceOf w w1 := ((SinceOf.refl w).alloc _).grown hgr1 (by intro k hk; simp [blockOf] at hk; omega)
    clear hown1 hgr1 hb1
    obtain ⟨x1, rfl⟩ := hs1
    go_loopg [5] 1 (fun gas s5 wr => s5 = .int .i64 (-2) ∧ LaterOf x1.wd wr)
    case atStart => exact ⟨rfl, by (repeat (first | (with_reducible exact LaterOf.refl _) | (with_reducible refine LaterOf.alloc ?_ _) | (with_reducible refine LaterOf.drew ?_) | (with_reducible refine LaterOf.drewN ?_ _) | (with_reducible refine LaterOf.later ?_ _) | (with_reducible refine LaterOf.setCell ?_ (by first | exact Nat.le_refl _ | (simp; done) | omega | (simp; omega)) _)))⟩
    case round =>
      obtain ⟨rfl, ⟨z, rfl⟩⟩ := hrel
      go_wp2_with fail
      refine region_later (by kernel_rfl) (by kernel_rfl) ?_
      repeat (go_big_quiet_step (fail))
      refine wpQuiet_nil ?_
      rintro _ ⟨z2, rfl⟩
      go_wp2_with fail
      go_returns
      exact ⟨none, 0, rfl, IsRow.nil _ _ _, by (repeat (first | (with_reducible exact SinceOf.refl _) | (with_reducible assumption) | (with_reducible refine SinceOf.alloc ?_ _) | (with_reducible refine SinceOf.drew ?_) | (with_reducible refine SinceOf.drewN ?_ _) | (with_reducible refine SinceOf.later ?_ _) | (with_reducible refine SinceOf.further ?_ _) | (with_reducible refine SinceOf.setCell ?_ (by first | exact Nat.le_refl _ | (simp; done) | omega | (simp; omega)) _)))⟩
end Go.Proofs.Ytdcncalcncomoaa
