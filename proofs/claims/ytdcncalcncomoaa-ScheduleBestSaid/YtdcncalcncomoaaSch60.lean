/- Layer 52: ScheduleBest's walk. -/
import Derived.Test.YtdcncalcncomoaaSch59
namespace Go.Proofs.Ytdcncalcncomoaa
open Go.RowKit Go.Sort
set_option linter.unusedVariables false
attribute [local go_sem ↓] Go.wp_at_zero Go.wp_at_succ

set_option maxRecDepth 100000 in
set_option maxHeartbeats 16000000 in
theorem sbest_walk (aw : ∀ w : World, Yields Try.prog 5 #[] w (.bool true)) (s : ShopR) (A : Option Addr) (c : Nat) (L : List JobR) (B : Option Addr) (d : Nat) (order : List Int) (w : World) (hs : IsShop w s) (hL : IsJobs w A c L) (ho : IsInts w B d order) (hol : order.length < 4611686018427387904) :
    Yields Try.prog 4 #[probV s A L.length c, .slice B order.length d] w (.bool true) := by
  apply Yields.ret
  have SM := fun W (hW : SinceOf w W) => small_any s A c L W (hs.of hW) (hL.of hW)
  cases hsm : smallB s L
  · rw [hsm] at SM
    clear hsm hs hL ho
    go_enter Try.func4, Try.ntmps4
    go_wp2_with fail
    refine (aw _).calls.mono ?_
    rintro e _ ⟨rfl, x1, rfl⟩
    go_wp2_with fail
    refine (SM _ (by (repeat (first | (with_reducible exact SinceOf.refl _) | (with_reducible assumption) | (with_reducible refine SinceOf.alloc ?_ _) | (with_reducible refine SinceOf.drew ?_) | (with_reducible refine SinceOf.drewN ?_ _) | (with_reducible refine SinceOf.later ?_ _) | (with_reducible refine SinceOf.further ?_ _) | (with_reducible refine SinceOf.setCell ?_ (by first | exact Nat.le_refl _ | (simp; done) | omega | (simp; omega)) _))))).calls.mono ?_
    rintro e _ ⟨rfl, x2, rfl⟩
    go_wp2_with fail
    go_returns
    exact ⟨rfl, by (repeat (first | (with_reducible exact SinceOf.refl _) | (with_reducible assumption) | (with_reducible refine SinceOf.alloc ?_ _) | (with_reducible refine SinceOf.drew ?_) | (with_reducible refine SinceOf.drewN ?_ _) | (with_reducible refine SinceOf.later ?_ _) | (with_reducible refine SinceOf.further ?_ _) | (with_reducible refine SinceOf.setCell ?_ (by first | exact Nat.le_refl _ | (simp; done) | omega | (simp; omega)) _)))⟩
  have hlens := few_lens hsm
  rw [hsm] at SM
  clear hsm
  by_cases hq : (L.length ≤ 4 ∨ L.length = 7) ∧ order.length ≤ 4
  · obtain ⟨hn, hq4⟩ := hq
    have hn46 : L.length ≤ 4 ∨ 6 < L.length := by omega
    have hcase : (¬ (4 : Int) < L.length) ∨ ((4 : Int) < L.length ∧ ((L.length : Int) != 7) = false) := by
      rcases hn with h | h
      · exact .inl (by omega)
      · exact .inr ⟨by omega, by rw [h]; rfl⟩
    have hq4' : ¬ (4 : Int) < order.length := by omega
    have hbf := bestV_facts s L hn46
    have PD0 := fun cA cc jA jc W (h1 : IsShop W (withCals s cA cc)) (h2 : IsJobs W jA jc L) => best_any (withCals s cA cc) jA jc L W h1 h2
    have RB := fun W (hW : SinceOf w W) => refBest_any s A c L W (hs.of hW) (hL.of hW) hn46
    simp only [bestV_with] at PD0
    generalize bestV s L = bv at *
    obtain ⟨o, l, er⟩ := bv
    simp only at hbf PD0 RB
    have PD : ∀ cA cc jA jc W, IsShop W (withCals s cA cc) → IsJobs W jA jc L → Calls Try.prog 16 #[.agg #[.slice cA s.cals.length cc, .slice s.B s.rows.length s.d, .int .i64 s.most], .slice jA L.length jc] W fun e w' => ∃ (C : Option Addr) (d : Nat) (B : Option Addr) (b : Nat), e = .returned (.tuple #[.slice C o.length d, .slice B l.length b, .int .i64 er]) ∧ IsInts w' C d o ∧ IsSlots w' B b l ∧ SinceOf W w' := PD0
    clear PD0
    obtain ⟨hb1, hb2, hb3⟩ := hbf
    have hcl := hs.cals.len
    have hjl := hL.len
    have H := Lib.hid (And.intro hs (And.intro hL (And.intro ho hb3)))
    clear hs hL ho hb3 hn hn46
    go_enter Try.func4, Try.ntmps4
    go_wp2_with fail
    refine (aw _).calls.mono ?_
    rintro e _ ⟨rfl, z1, rfl⟩
    go_upto_region 3 with fail
    go_cut [36] (fun s36 wx => s36 = .bool false ∧ SinceOf z1.wd wx)
    case first =>
      rcases hcase with d1 | ⟨d1, d2⟩
      all_goals
        go_wp2_with fail
        refine (SM _ (by (repeat (first | (with_reducible exact SinceOf.refl _) | (with_reducible assumption) | (with_reducible refine SinceOf.alloc ?_ _) | (with_reducible refine SinceOf.drew ?_) | (with_reducible refine SinceOf.drewN ?_ _) | (with_reducible refine SinceOf.later ?_ _) | (with_reducible refine SinceOf.further ?_ _) | (with_reducible refine SinceOf.setCell ?_ (by first | exact Nat.le_refl _ | (simp; done) | omega | (simp; omega)) _))))).calls.mono ?_
        rintro e _ ⟨rfl, z2, rfl⟩
        go_wp2_with fail
        go_meet
        exact ⟨by (try simp); (try omega), by (repeat (first | (with_reducible exact SinceOf.refl _) | (with_reducible assumption) | (with_reducible refine SinceOf.alloc ?_ _) | (with_reducible refine SinceOf.drew ?_) | (with_reducible refine SinceOf.drewN ?_ _) | (with_reducible refine SinceOf.later ?_ _) | (with_reducible refine SinceOf.further ?_ _) | (with_reducible refine SinceOf.setCell ?_ (by first | exact Nat.le_refl _ | (simp; done) | omega | (simp; omega)) _)))⟩
    case rest =>
      obtain ⟨rfl, ⟨z2, rfl⟩⟩ := hcut
      clear SM aw hcase
      go_upto_region 5 with fail
      go_cut [5, 6, 7] (fun s5 s6 s7 wx => ∃ (C : Option Addr) (d1 : Nat) (B2 : Option Addr) (b2 : Nat), s5 = .slice C o.length d1 ∧ s6 = .slice B2 l.length b2 ∧ s7 = .int .i64 er ∧ IsInts wx C d1 o ∧ IsSlots wx B2 b2 l ∧ SinceOf z2.wd wx)
      case first =>
        go_region_held3 (fun w' => w'.cell? ⟨w.heap.size, 0, none⟩ = some (.slice s.A s.cals.length s.c) ∧ w'.cell? ⟨w.heap.size, 1, none⟩ = some (.slice s.B s.rows.length s.d) ∧ w'.cell? ⟨w.heap.size, 2, none⟩ = some (.int .i64 s.most) ∧ w'.cell? ⟨w.heap.size, 3, none⟩ = some (.slice A L.length c)) ((simp [go_sem, *]))
          (first
            | (go_at_call 9; refine (own52b_any s _ (H.out.1.of (by (repeat (first | (with_reducible exact SinceOf.refl _) | (with_reducible assumption) | (with_reducible refine SinceOf.alloc ?_ _) | (with_reducible refine SinceOf.drew ?_) | (with_reducible refine SinceOf.drewN ?_ _) | (with_reducible refine SinceOf.later ?_ _) | (with_reducible refine SinceOf.further ?_ _) | (with_reducible refine SinceOf.setCell ?_ (by first | exact Nat.le_refl _ | (simp; done) | omega | (simp; omega)) _))))) (by omega)).mono ?_; rintro e _ ⟨cA, cc, rfl, hrc, hbc, ⟨y1, rfl⟩⟩)
            | (go_at_call 10; refine (jobs52b_any A c L _ (H.out.2.1.of (by (repeat (first | (with_reducible exact SinceOf.refl _) | (with_reducible assumption) | (with_reducible refine SinceOf.alloc ?_ _) | (with_reducible refine SinceOf.drew ?_) | (with_reducible refine SinceOf.drewN ?_ _) | (with_reducible refine SinceOf.later ?_ _) | (with_reducible refine SinceOf.further ?_ _) | (with_reducible refine SinceOf.setCell ?_ (by first | exact Nat.le_refl _ | (simp; done) | omega | (simp; omega)) _))))) (by omega)).mono ?_; rintro e _ ⟨jA, jc, rfl, hrj, hbj, ⟨y2, rfl⟩⟩)
            | (go_at_call 16; refine (PD _ _ _ _ _ (shop_at H.out.1 (hrc.of (by (repeat (first | (with_reducible exact SinceOf.refl _) | (with_reducible assumption) | (with_reducible refine SinceOf.alloc ?_ _) | (with_reducible refine SinceOf.drew ?_) | (with_reducible refine SinceOf.drewN ?_ _) | (with_reducible refine SinceOf.later ?_ _) | (with_reducible refine SinceOf.further ?_ _) | (with_reducible refine SinceOf.setCell ?_ (by first | exact Nat.le_refl _ | (simp; done) | omega | (simp; omega)) _))))) (by (repeat (first | (with_reducible exact SinceOf.refl _) | (with_reducible assumption) | (with_reducible refine SinceOf.alloc ?_ _) | (with_reducible refine SinceOf.drew ?_) | (with_reducible refine SinceOf.drewN ?_ _) | (with_reducible refine SinceOf.later ?_ _) | (with_reducible refine SinceOf.further ?_ _) | (with_reducible refine SinceOf.setCell ?_ (by first | exact Nat.le_refl _ | (simp; done) | omega | (simp; omega)) _))))) (jobs_at H.out.2.1 (hrj.of (by (repeat (first | (with_reducible exact SinceOf.refl _) | (with_reducible assumption) | (with_reducible refine SinceOf.alloc ?_ _) | (with_reducible refine SinceOf.drew ?_) | (with_reducible refine SinceOf.drewN ?_ _) | (with_reducible refine SinceOf.later ?_ _) | (with_reducible refine SinceOf.further ?_ _) | (with_reducible refine SinceOf.setCell ?_ (by first | exact Nat.le_refl _ | (simp; done) | omega | (simp; omega)) _))))) (by (repeat (first | (with_reducible exact SinceOf.refl _) | (with_reducible assumption) | (with_reducible refine SinceOf.alloc ?_ _) | (with_reducible refine SinceOf.drew ?_) | (with_reducible refine SinceOf.drewN ?_ _) | (with_reducible refine SinceOf.later ?_ _) | (with_reducible refine SinceOf.further ?_ _) | (with_reducible refine SinceOf.setCell ?_ (by first | exact Nat.le_refl _ | (simp; done) | omega | (simp; omega)) _)))))).mono ?_; rintro e _ ⟨C3, d3, B3, b3, rfl, hC3, hB3, ⟨y4, rfl⟩⟩))
        all_goals go_wp2_with fail
        all_goals go_meet
        all_goals exact ⟨_, _, _, _, rfl, rfl, rfl, hC3, hB3, by (repeat (first | (with_reducible exact SinceOf.refl _) | (with_reducible assumption) | (with_reducible refine SinceOf.alloc ?_ _) | (with_reducible refine SinceOf.drew ?_) | (with_reducible refine SinceOf.drewN ?_ _) | (with_reducible refine SinceOf.later ?_ _) | (with_reducible refine SinceOf.further ?_ _) | (with_reducible refine SinceOf.setCell ?_ (by first | exact Nat.le_refl _ | (simp; done) | omega | (simp; omega)) _)))⟩
      case rest =>
        obtain ⟨C1, d1, B1, b1, rfl, rfl, rfl, hC1, hB1, ⟨z3, rfl⟩⟩ := hcut
        have H1 := Lib.hid (And.intro hC1 hB1)
        clear PD hC1 hB1
        go_wp2_with fail
        refine (RB _ (by (repeat (first | (with_reducible exact SinceOf.refl _) | (with_reducible assumption) | (with_reducible refine SinceOf.alloc ?_ _) | (with_reducible refine SinceOf.drew ?_) | (with_reducible refine SinceOf.drewN ?_ _) | (with_reducible refine SinceOf.later ?_ _) | (with_reducible refine SinceOf.further ?_ _) | (with_reducible refine SinceOf.setCell ?_ (by first | exact Nat.le_refl _ | (simp; done) | omega | (simp; omega)) _))))).mono ?_
        rintro e _ ⟨C2, d2, B2, b2, rfl, hC2, hB2, ⟨z4, rfl⟩⟩
        have H2 := Lib.hid (And.intro hC2 hB2)
        clear RB hC2 hB2
        go_wp2_with fail
        refine (theirs_any B1 b1 l _ (H1.out.2.of (by (repeat (first | (with_reducible exact SinceOf.refl _) | (with_reducible assumption) | (with_reducible refine SinceOf.alloc ?_ _) | (with_reducible refine SinceOf.drew ?_) | (with_reducible refine SinceOf.drewN ?_ _) | (with_reducible refine SinceOf.later ?_ _) | (with_reducible refine SinceOf.further ?_ _) | (with_reducible refine SinceOf.setCell ?_ (by first | exact Nat.le_refl _ | (simp; done) | omega | (simp; omega)) _))))) (by omega)).mono ?_
        rintro e _ ⟨tA, tc, rfl, hT, ⟨z5, rfl⟩⟩
        have HT := Lib.hid (hT.isRow encS_len)
        clear hT
        go_wp2_with fail
        refine (refSameS_any tA B2 tc b2 l _ (HT.out.of (by (repeat (first | (with_reducible exact SinceOf.refl _) | (with_reducible assumption) | (with_reducible refine SinceOf.alloc ?_ _) | (with_reducible refine SinceOf.drew ?_) | (with_reducible refine SinceOf.drewN ?_ _) | (with_reducible refine SinceOf.later ?_ _) | (with_reducible refine SinceOf.further ?_ _) | (with_reducible refine SinceOf.setCell ?_ (by first | exact Nat.le_refl _ | (simp; done) | omega | (simp; omega)) _))))) (H2.out.2.of (by (repeat (first | (with_reducible exact SinceOf.refl _) | (with_reducible assumption) | (with_reducible refine SinceOf.alloc ?_ _) | (with_reducible refine SinceOf.drew ?_) | (with_reducible refine SinceOf.drewN ?_ _) | (with_reducible refine SinceOf.later ?_ _) | (with_reducible refine SinceOf.further ?_ _) | (with_reducible refine SinceOf.setCell ?_ (by first | exact Nat.le_refl _ | (simp; done) | omega | (simp; omega)) _))))) (by omega)).calls.mono ?_
        rintro e _ ⟨rfl, z6, rfl⟩
        go_wp2_with fail
        go_loopg [76] o.length (fun gas s76 wr => ∃ k : Nat, k ≤ o.length ∧ o.length - k ≤ gas ∧ s76 = .int .i64 k ∧ SinceOf z6.wd wr)
        case atStart => exact ⟨0, by omega, by omega, rfl, by (repeat (first | (with_reducible exact SinceOf.refl _) | (with_reducible assumption) | (with_reducible refine SinceOf.alloc ?_ _) | (with_reducible refine SinceOf.drew ?_) | (with_reducible refine SinceOf.drewN ?_ _) | (with_reducible refine SinceOf.later ?_ _) | (with_reducible refine SinceOf.further ?_ _) | (with_reducible refine SinceOf.setCell ?_ (by first | exact Nat.le_refl _ | (simp; done) | omega | (simp; omega)) _)))⟩
        case round =>
          obtain ⟨k, hk, hgas, rfl, ⟨z7, rfl⟩⟩ := hrel
          by_cases hlt : k < o.length
          · obtain ⟨g, off, rfl, hr⟩ := (H1.out.1.of (show SinceOf z3.wd z7.wd by (repeat (first | (with_reducible exact SinceOf.refl _) | (with_reducible assumption) | (with_reducible refine SinceOf.alloc ?_ _) | (with_reducible refine SinceOf.drew ?_) | (with_reducible refine SinceOf.drewN ?_ _) | (with_reducible refine SinceOf.later ?_ _) | (with_reducible refine SinceOf.further ?_ _) | (with_reducible refine SinceOf.setCell ?_ (by first | exact Nat.le_refl _ | (simp; done) | omega | (simp; omega)) _))))).at_ (by omega)
            obtain ⟨g2, off2, rfl, hr2⟩ := (H2.out.1.of (show SinceOf z4.wd z7.wd by (repeat (first | (with_reducible exact SinceOf.refl _) | (with_reducible assumption) | (with_reducible refine SinceOf.alloc ?_ _) | (with_reducible refine SinceOf.drew ?_) | (with_reducible refine SinceOf.drewN ?_ _) | (with_reducible refine SinceOf.later ?_ _) | (with_reducible refine SinceOf.further ?_ _) | (with_reducible refine SinceOf.setCell ?_ (by first | exact Nat.le_refl _ | (simp; done) | omega | (simp; omega)) _))))).at_ (by omega)
            have hO := hr.there
            have hO2 := hr2.there
            have c0 := hr.n0 k hlt
            have e0 := hr2.n0 k hlt
            clear hr hr2
            generalize o[k] = x at *
            go_wp2_with fail
            refine region_later (by kernel_rfl) (by kernel_rfl) ?_
            repeat (go_big_quiet_step (fail))
            refine wpQuiet_nil ?_
            rintro _ ⟨z8, rfl⟩
            go_wp2_with fail
            go_roundg (o.length - (k + 1))
            case measure => omega
            case rel => exact ⟨k + 1, hlt, Nat.le_refl _, by go_num, by (repeat (first | (with_reducible exact SinceOf.refl _) | (with_reducible assumption) | (with_reducible refine SinceOf.alloc ?_ _) | (with_reducible refine SinceOf.drew ?_) | (with_reducible refine SinceOf.drewN ?_ _) | (with_reducible refine SinceOf.later ?_ _) | (with_reducible refine SinceOf.further ?_ _) | (with_reducible refine SinceOf.setCell ?_ (by first | exact Nat.le_refl _ | (simp; done) | omega | (simp; omega)) _)))⟩
          · have hkl : k = o.length := by omega
            by_cases he : er = 0
            · subst he
              obtain ⟨hc, hn4, hgm, hle⟩ := H.out.2.2.2 rfl
              have hg5 := good_stop hgm
              have LO := fun W (hW : SinceOf w W) => refList_any s A c L B d order W (H.out.1.of hW) (H.out.2.1.of hW) (H.out.2.2.1.of hW) (by omega)
              have hle2 := hle order
              have hog := fun h => order_good (order := order) hc h
              have hpo : (listV s L order).1 = 0 → ∀ B7 b7 W, SinceOf w W → IsSlots W B7 b7 (listV s L order).2.1 → Yields Try.prog 22 #[.slice A L.length c, .slice B7 (listV s L order).2.1.length b7] W (slotV (priceV L (listV s L order).2.1)) := fun h0 B7 b7 W hW h7 =>
                refPrice_any A c L B7 b7 _ W (H.out.2.1.of hW) (by omega) (any_due hc) h7 (by have := (hog h0).2.1; omega) (good_stop (hog h0).1)
              generalize listV s L order = lv at *
              obtain ⟨le, ol, ll⟩ := lv
              simp only at LO hle2 hog hpo
              by_cases hle0 : le = 0
              · subst hle0
                have hcost := hle2 rfl
                have hol4 := (hog rfl).2.1
                have PO := hpo rfl
                have PM := fun W (hW : SinceOf w W) (h7 : IsSlots W B2 b2 l) => refPrice_any A c L B2 b2 l W (H.out.2.1.of hW) (by omega) (any_due hc) h7 (by omega) hg5
                have hcl2 : costLt L ol l = lessC (priceV L ol).job (priceV L ol).mach (priceV L ol).start (priceV L ol).stop (priceV L l).job (priceV L l).mach (priceV L l).start (priceV L l).stop := rfl
                have LE := fun W => refLess_any (priceV L ol).job (priceV L ol).mach (priceV L ol).start (priceV L ol).stop (priceV L l).job (priceV L l).mach (priceV L l).start (priceV L l).stop W
                rw [← hcl2, hcost] at LE
                generalize priceV L ol = p1 at *
                generalize priceV L l = p2 at *
                obtain ⟨p10, p11, p12, p13⟩ := p1
                obtain ⟨p20, p21, p22, p23⟩ := p2
                simp only at LE
                clear hcl2 hcost hle2 hog hpo hle hgm hc hg5
                go_wp2_with fail
                refine (LO _ (by (repeat (first | (with_reducible exact SinceOf.refl _) | (with_reducible assumption) | (with_reducible refine SinceOf.alloc ?_ _) | (with_reducible refine SinceOf.drew ?_) | (with_reducible refine SinceOf.drewN ?_ _) | (with_reducible refine SinceOf.later ?_ _) | (with_reducible refine SinceOf.further ?_ _) | (with_reducible refine SinceOf.setCell ?_ (by first | exact Nat.le_refl _ | (simp; done) | omega | (simp; omega)) _))))).mono ?_
                rintro e _ ⟨B7, b7, E7, f7, rfl, h7, -, -, ⟨z8, rfl⟩⟩
                have H7 := Lib.hid h7
                clear h7 LO
                go_upto_region 18 with fail
                go_region_held3 (fun w' => w'.cell? ⟨w.heap.size, 3, none⟩ = some (.slice A L.length c)) ((simp [go_sem, *]))
                  (first
                    | (go_at_call 22; (with_reducible refine (PO B7 b7 _ (by (repeat (first | (with_reducible exact SinceOf.refl _) | (with_reducible assumption) | (with_reducible refine SinceOf.alloc ?_ _) | (with_reducible refine SinceOf.drew ?_) | (with_reducible refine SinceOf.drewN ?_ _) | (with_reducible refine SinceOf.later ?_ _) | (with_reducible refine SinceOf.further ?_ _) | (with_reducible refine SinceOf.setCell ?_ (by first | exact Nat.le_refl _ | (simp; done) | omega | (simp; omega)) _)))) (H7.out.of (by (repeat (first | (with_reducible exact SinceOf.refl _) | (with_reducible assumption) | (with_reducible refine SinceOf.alloc ?_ _) | (with_reducible refine SinceOf.drew ?_) | (with_reducible refine SinceOf.drewN ?_ _) | (with_reducible refine SinceOf.later ?_ _) | (with_reducible refine SinceOf.further ?_ _) | (with_reducible refine SinceOf.setCell ?_ (by first | exact Nat.le_refl _ | (simp; done) | omega | (simp; omega)) _)))))).calls.mono ?_); rintro e _ ⟨rfl, y6, rfl⟩)
                    | (go_at_call 22; (with_reducible refine (PM _ (by (repeat (first | (with_reducible exact SinceOf.refl _) | (with_reducible assumption) | (with_reducible refine SinceOf.alloc ?_ _) | (with_reducible refine SinceOf.drew ?_) | (with_reducible refine SinceOf.drewN ?_ _) | (with_reducible refine SinceOf.later ?_ _) | (with_reducible refine SinceOf.further ?_ _) | (with_reducible refine SinceOf.setCell ?_ (by first | exact Nat.le_refl _ | (simp; done) | omega | (simp; omega)) _)))) (H2.out.2.of (by (repeat (first | (with_reducible exact SinceOf.refl _) | (with_reducible assumption) | (with_reducible refine SinceOf.alloc ?_ _) | (with_reducible refine SinceOf.drew ?_) | (with_reducible refine SinceOf.drewN ?_ _) | (with_reducible refine SinceOf.later ?_ _) | (with_reducible refine SinceOf.further ?_ _) | (with_reducible refine SinceOf.setCell ?_ (by first | exact Nat.le_refl _ | (simp; done) | omega | (simp; omega)) _)))))).calls.mono ?_); rintro e _ ⟨rfl, y7, rfl⟩)
                    | (go_at_call 21; refine (LE _).calls.mono ?_; rintro e _ ⟨rfl, y8, rfl⟩))
                all_goals
                  go_wp2_with fail
                  go_returns
                  exact ⟨rfl, by (repeat (first | (with_reducible exact SinceOf.refl _) | (with_reducible assumption) | (with_reducible refine SinceOf.alloc ?_ _) | (with_reducible refine SinceOf.drew ?_) | (with_reducible refine SinceOf.drewN ?_ _) | (with_reducible refine SinceOf.later ?_ _) | (with_reducible refine SinceOf.further ?_ _) | (with_reducible refine SinceOf.setCell ?_ (by first | exact Nat.le_refl _ | (simp; done) | omega | (simp; omega)) _)))⟩
              · have hle1 : (le != 0) = true := by simpa using hle0
                clear hpo hog hle2 hle0 hle
                go_wp2_with fail
                refine (LO _ (by (repeat (first | (with_reducible exact SinceOf.refl _) | (with_reducible assumption) | (with_reducible refine SinceOf.alloc ?_ _) | (with_reducible refine SinceOf.drew ?_) | (with_reducible refine SinceOf.drewN ?_ _) | (with_reducible refine SinceOf.later ?_ _) | (with_reducible refine SinceOf.further ?_ _) | (with_reducible refine SinceOf.setCell ?_ (by first | exact Nat.le_refl _ | (simp; done) | omega | (simp; omega)) _))))).mono ?_
                rintro e _ ⟨B7, b7, E7, f7, rfl, -, -, -, ⟨z8, rfl⟩⟩
                clear LO
                go_wp2_with fail
                first
                  | (go_returns; exact ⟨rfl, by (repeat (first | (with_reducible exact SinceOf.refl _) | (with_reducible assumption) | (with_reducible refine SinceOf.alloc ?_ _) | (with_reducible refine SinceOf.drew ?_) | (with_reducible refine SinceOf.drewN ?_ _) | (with_reducible refine SinceOf.later ?_ _) | (with_reducible refine SinceOf.further ?_ _) | (with_reducible refine SinceOf.setCell ?_ (by first | exact Nat.le_refl _ | (simp; done) | omega | (simp; omega)) _)))⟩)
                  | (refine region_later (by kernel_rfl) (by kernel_rfl) ?_
                     repeat (go_big_quiet_step (fail))
                     refine wpQuiet_nil ?_
                     rintro _ ⟨z9, rfl⟩
                     go_wp2_with fail
                     go_returns
                     exact ⟨by simp, by (repeat (first | (with_reducible exact SinceOf.refl _) | (with_reducible assumption) | (with_reducible refine SinceOf.alloc ?_ _) | (with_reducible refine SinceOf.drew ?_) | (with_reducible refine SinceOf.drewN ?_ _) | (with_reducible refine SinceOf.later ?_ _) | (with_reducible refine SinceOf.further ?_ _) | (with_reducible refine SinceOf.setCell ?_ (by first | exact Nat.le_refl _ | (simp; done) | omega | (simp; omega)) _)))⟩)
            · have her : (er != 0) = true := by simpa using he
              clear he
              go_wp2_with fail
              go_returns
              exact ⟨rfl, by (repeat (first | (with_reducible exact SinceOf.refl _) | (with_reducible assumption) | (with_reducible refine SinceOf.alloc ?_ _) | (with_reducible refine SinceOf.drew ?_) | (with_reducible refine SinceOf.drewN ?_ _) | (with_reducible refine SinceOf.later ?_ _) | (with_reducible refine SinceOf.further ?_ _) | (with_reducible refine SinceOf.setCell ?_ (by first | exact Nat.le_refl _ | (simp; done) | omega | (simp; omega)) _)))⟩
  · have hcase : ((4 : Int) < L.length ∧ ((L.length : Int) != 7) = true) ∨ (¬ (4 : Int) < L.length ∧ (4 : Int) < order.length) ∨ ((4 : Int) < L.length ∧ ((L.length : Int) != 7) = false ∧ (4 : Int) < order.length) := by
      by_cases h4 : L.length ≤ 4
      · exact .inr (.inl ⟨by omega, by omega⟩)
      · by_cases h7 : L.length = 7
        · exact .inr (.inr ⟨by omega, by rw [h7]; rfl, by omega⟩)
        · exact .inl ⟨by omega, by simp; omega⟩
    clear hs hL ho hq
    rcases hcase with ⟨d1, d2⟩ | ⟨d1, d2⟩ | ⟨d1, d2, d3⟩
    all_goals
      go_enter Try.func4, Try.ntmps4
      go_wp2_with fail
      refine (aw _).calls.mono ?_
      rintro e _ ⟨rfl, x1, rfl⟩
      go_wp2_with fail
      refine (SM _ (by (repeat (first | (with_reducible exact SinceOf.refl _) | (with_reducible assumption) | (with_reducible refine SinceOf.alloc ?_ _) | (with_reducible refine SinceOf.drew ?_) | (with_reducible refine SinceOf.drewN ?_ _) | (with_reducible refine SinceOf.later ?_ _) | (with_reducible refine SinceOf.further ?_ _) | (with_reducible refine SinceOf.setCell ?_ (by first | exact Nat.le_refl _ | (simp; done) | omega | (simp; omega)) _))))).calls.mono ?_
      rintro e _ ⟨rfl, x2, rfl⟩
      go_wp2_with fail
      go_returns
      exact ⟨rfl, by (repeat (first | (with_reducible exact SinceOf.refl _) | (with_reducible assumption) | (with_reducible refine SinceOf.alloc ?_ _) | (with_reducible refine SinceOf.drew ?_) | (with_reducible refine SinceOf.drewN ?_ _) | (with_reducible refine SinceOf.later ?_ _) | (with_reducible refine SinceOf.further ?_ _) | (with_reducible refine SinceOf.setCell ?_ (by first | exact Nat.le_refl _ | (simp; done) | omega | (simp; omega)) _)))⟩
end Go.Proofs.Ytdcncalcncomoaa
