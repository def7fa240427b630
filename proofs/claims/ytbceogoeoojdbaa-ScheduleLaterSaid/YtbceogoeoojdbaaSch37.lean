/- Layer 52: ScheduleLater's walk. -/
import Derived.Test.YtbceogoeoojdbaaSch36
namespace Go.Proofs.Ytbceogoeoojdbaa
open Go.RowKit Go.Sort
set_option linter.unusedVariables false
attribute [local go_sem ↓] Go.wp_at_zero Go.wp_at_succ

set_option maxRecDepth 100000 in
set_option maxHeartbeats 8000000 in
theorem later_walk (aw : ∀ w : World, Yields Try.prog 15 #[] w (.bool true)) (s : ShopR) (A : Option Addr) (c : Nat) (L : List JobR) (B : Option Addr) (d : Nat) (order : List Int) (t : Int) (ht : 0 ≤ t ∧ t ≤ 65535) (w : World) (hs : IsShop w s) (hL : IsJobs w A c L) (ho : IsInts w B d order) (hol : order.length < 4611686018427387904) :
    Yields Try.prog 4 #[probV s A L.length c, .slice B order.length d, .int .u16 t] w (.bool true) := by
  apply Yields.ret
  have SM := fun W (hW : SinceOf w W) => small_any s A c L W (hs.of hW) (hL.of hW)
  have RC := fun W (hW : SinceOf w W) => refCheck52_any s A c L W (hs.of hW) (hL.of hW)
  rw [refCheck_eq] at RC
  have H := Lib.hid (And.intro hs (And.intro hL ho))
  clear hs hL ho
  cases hsm : smallB s L
  · rw [hsm] at SM
    clear hsm RC
    go_enter Try.func4, Try.ntmps4
    go_wp2_with fail
    refine (aw _).calls.mono ?_
    rintro e _ ⟨rfl, x1, rfl⟩
    go_wp2_with fail
    refine (SM _ (by (repeat (first | (with_reducible exact SinceOf.refl _) | (with_reducible assumption) | (with_reducible refine SinceOf.alloc ?_ _) | (with_reducible refine SinceOf.drew ?_) | (with_reducible refine SinceOf.drewN ?_ _) | (with_reducible refine SinceOf.later ?_ _) | (with_reducible refine SinceOf.further ?_ _) | (with_reducible refine SinceOf.setCell ?_ (by first | exact Nat.le_refl _ | (simp; done) | omega | (simp; omega)) _))))).calls.mono ?_
    rintro e _ ⟨rfl, x2, rfl⟩
    go_wp2_with fail
    go_returns
    exact ⟨rfl, by (repeat (first | (with_reducible exact SinceOf.refl _) | (with_reducible assumption) | (with_reducible refine SinceOf.alloc ?_ _) | (with_reducible refine SinceOf.drew ?_) | (with_reducible refine SinceOf.drewN ?_ _) | (with_reducible refine SinceOf.later ?_ _) | (with_reducible refine SinceOf.further ?_ _) | (with_reducible refine SinceOf.setCell ?_ (by first | exact Nat.le_refl _ | (simp; done) | omega | (simp; omega)) _)))⟩
  · have hlens := few_lens hsm
    have HSM := Lib.hid hsm
    rw [hsm] at SM
    clear hsm
    by_cases h8 : 8 < order.length
    · clear RC
      go_enter Try.func4, Try.ntmps4
      go_wp2_with fail
      refine (aw _).calls.mono ?_
      rintro e _ ⟨rfl, x1, rfl⟩
      go_wp2_with fail
      refine (SM _ (by (repeat (first | (with_reducible exact SinceOf.refl _) | (with_reducible assumption) | (with_reducible refine SinceOf.alloc ?_ _) | (with_reducible refine SinceOf.drew ?_) | (with_reducible refine SinceOf.drewN ?_ _) | (with_reducible refine SinceOf.later ?_ _) | (with_reducible refine SinceOf.further ?_ _) | (with_reducible refine SinceOf.setCell ?_ (by first | exact Nat.le_refl _ | (simp; done) | omega | (simp; omega)) _))))).calls.mono ?_
      rintro e _ ⟨rfl, x2, rfl⟩
      go_wp2_with fail
      go_returns
      exact ⟨rfl, by (repeat (first | (with_reducible exact SinceOf.refl _) | (with_reducible assumption) | (with_reducible refine SinceOf.alloc ?_ _) | (with_reducible refine SinceOf.drew ?_) | (with_reducible refine SinceOf.drewN ?_ _) | (with_reducible refine SinceOf.later ?_ _) | (with_reducible refine SinceOf.further ?_ _) | (with_reducible refine SinceOf.setCell ?_ (by first | exact Nat.le_refl _ | (simp; done) | omega | (simp; omega)) _)))⟩
    · cases hck : checkS s L
      · rw [hck] at RC
        clear hck
        go_enter Try.func4, Try.ntmps4
        go_wp2_with fail
        refine (aw _).calls.mono ?_
        rintro e _ ⟨rfl, x1, rfl⟩
        go_wp2_with fail
        refine (SM _ (by (repeat (first | (with_reducible exact SinceOf.refl _) | (with_reducible assumption) | (with_reducible refine SinceOf.alloc ?_ _) | (with_reducible refine SinceOf.drew ?_) | (with_reducible refine SinceOf.drewN ?_ _) | (with_reducible refine SinceOf.later ?_ _) | (with_reducible refine SinceOf.further ?_ _) | (with_reducible refine SinceOf.setCell ?_ (by first | exact Nat.le_refl _ | (simp; done) | omega | (simp; omega)) _))))).calls.mono ?_
        rintro e _ ⟨rfl, x2, rfl⟩
        go_wp2_with fail
        refine (RC _ (by (repeat (first | (with_reducible exact SinceOf.refl _) | (with_reducible assumption) | (with_reducible refine SinceOf.alloc ?_ _) | (with_reducible refine SinceOf.drew ?_) | (with_reducible refine SinceOf.drewN ?_ _) | (with_reducible refine SinceOf.later ?_ _) | (with_reducible refine SinceOf.further ?_ _) | (with_reducible refine SinceOf.setCell ?_ (by first | exact Nat.le_refl _ | (simp; done) | omega | (simp; omega)) _))))).calls.mono ?_
        rintro e _ ⟨rfl, x3, rfl⟩
        go_wp2_with fail
        go_returns
        exact ⟨rfl, by (repeat (first | (with_reducible exact SinceOf.refl _) | (with_reducible assumption) | (with_reducible refine SinceOf.alloc ?_ _) | (with_reducible refine SinceOf.drew ?_) | (with_reducible refine SinceOf.drewN ?_ _) | (with_reducible refine SinceOf.later ?_ _) | (with_reducible refine SinceOf.further ?_ _) | (with_reducible refine SinceOf.setCell ?_ (by first | exact Nat.le_refl _ | (simp; done) | omega | (simp; omega)) _)))⟩
      · have HCK := Lib.hid (And.intro hck (small_rel HSM.out hck))
        rw [hck] at RC
        clear hck
        obtain ⟨i0, hi, hz0, hz1, hz2⟩ := info_parts infoCal
        have HI := Lib.hid (And.intro hi (And.intro hz0 (And.intro hz1 hz2)))
        clear hi hz0 hz1 hz2
        go_enter Try.func4, Try.ntmps4
        go_wp2_with fail
        refine (aw _).calls.mono ?_
        rintro e _ ⟨rfl, x1, rfl⟩
        go_wp2_with fail
        refine (SM _ (by (repeat (first | (with_reducible exact SinceOf.refl _) | (with_reducible assumption) | (with_reducible refine SinceOf.alloc ?_ _) | (with_reducible refine SinceOf.drew ?_) | (with_reducible refine SinceOf.drewN ?_ _) | (with_reducible refine SinceOf.later ?_ _) | (with_reducible refine SinceOf.further ?_ _) | (with_reducible refine SinceOf.setCell ?_ (by first | exact Nat.le_refl _ | (simp; done) | omega | (simp; omega)) _))))).calls.mono ?_
        rintro e _ ⟨rfl, x2, rfl⟩
        go_wp2_with fail
        refine (RC _ (by (repeat (first | (with_reducible exact SinceOf.refl _) | (with_reducible assumption) | (with_reducible refine SinceOf.alloc ?_ _) | (with_reducible refine SinceOf.drew ?_) | (with_reducible refine SinceOf.drewN ?_ _) | (with_reducible refine SinceOf.later ?_ _) | (with_reducible refine SinceOf.further ?_ _) | (with_reducible refine SinceOf.setCell ?_ (by first | exact Nat.le_refl _ | (simp; done) | omega | (simp; omega)) _))))).calls.mono ?_
        rintro e _ ⟨rfl, x3, rfl⟩
        clear SM RC aw
        go_wp2_with fail
        refine (own52b_any s _ (H.out.1.of (by (repeat (first | (with_reducible exact SinceOf.refl _) | (with_reducible assumption) | (with_reducible refine SinceOf.alloc ?_ _) | (with_reducible refine SinceOf.drew ?_) | (with_reducible refine SinceOf.drewN ?_ _) | (with_reducible refine SinceOf.later ?_ _) | (with_reducible refine SinceOf.further ?_ _) | (with_reducible refine SinceOf.setCell ?_ (by first | exact Nat.le_refl _ | (simp; done) | omega | (simp; omega)) _))))) (by omega)).mono ?_
        rintro e _ ⟨cA, cc, rfl, hrc, hbc, ⟨y1, rfl⟩⟩
        clear hrc hbc
        go_wp2_with fail
        go_loopg [9, 47] s.cals.length (fun gas s9 s47 wr => ∃ (k : Nat) (A2 : Option Addr) (c2 : Nat) (AL : List CalR), k ≤ s.cals.length ∧ s.cals.length - k ≤ gas ∧ s9 = .slice A2 AL.length c2 ∧ s47 = .int .i64 k ∧ AL.length = k ∧ Owns encC 3 (y1.wd.heap.size + 1) 58 wr A2 c2 AL ∧ Lone (y1.wd.heap.size + 1) wr A2 AL ∧ SinceOf (y1.wd.alloc (.cells #[.slice cA s.cals.length cc, .slice s.B s.rows.length s.d, .int .i64 s.most] 36)) wr)
        case atStart => exact ⟨0, none, 0, [], by omega, by omega, rfl, rfl, rfl, Owns.nil _ _ _ _ _, fun x hx => by (cases hx), SinceOf.refl _⟩
        case round =>
          obtain ⟨k, A2, c2, AL, hk, hgas, rfl, rfl, hal, hown, hlone, ⟨z, rfl⟩⟩ := hrel
          have hzs := z.size
          simp only [World.size_alloc] at hzs
          by_cases hlt : k < s.cals.length
          · have HH := Lib.hid (And.intro hown (And.intro hlone hal))
            have hAl3 : AL.length ≤ 3 := by omega
            clear hown hlone hal
            go_wp2_with (at_builtin; refine wpList_append_row rfl (.tmp 49) (.tmp 53) 34 rfl encC_len (by omega) encC_one i0 _ 56 Try.underlying34 HI.out.1 HI.out.2.1 HI.out.2.2.1 HI.out.2.2.2 rfl (l := AL) (A := A2) (c := c2) (base := y1.wd.heap.size + 1) rfl (HH.out.1.of (by (repeat (first | (with_reducible exact SinceOf.refl _) | (with_reducible assumption) | (with_reducible refine SinceOf.alloc ?_ _) | (with_reducible refine SinceOf.drew ?_) | (with_reducible refine SinceOf.drewN ?_ _) | (with_reducible refine SinceOf.later ?_ _) | (with_reducible refine SinceOf.further ?_ _) | (with_reducible refine SinceOf.setCell ?_ (by first | exact Nat.le_refl _ | (simp; done) | omega | (simp; omega)) _))))) (m := [⟨1, some ⟨z.wd.heap.size, 0, none⟩, 1, [(0, 1)], none, 0, []⟩]) rfl (rowC_at _ _ ⟨1, some ⟨z.wd.heap.size, 0, none⟩, 1, [(0, 1)], none, 0, []⟩ _ (by first | rfl | simp)) (by unfold maxLen; simp; omega) (by simp; omega) (by simp; omega) ?_; intro A3 c3 w3 hown3 hgr3 hbl3)
            go_roundg (s.cals.length - (k + 1))
            case measure => omega
            case rel =>
              refine ⟨k + 1, A3, c3, _, hlt, Nat.le_refl _, by rw [List.length_append]; rfl, by go_num, by rw [List.length_append, HH.out.2.2]; rfl, hown3, HH.out.2.1.step (fun b hb => (HH.out.1.below b hb).2) (by omega) hgr3 hbl3, ?_⟩
              exact SinceOf.grown (by (repeat (first | (with_reducible exact SinceOf.refl _) | (with_reducible assumption) | (with_reducible refine SinceOf.alloc ?_ _) | (with_reducible refine SinceOf.drew ?_) | (with_reducible refine SinceOf.drewN ?_ _) | (with_reducible refine SinceOf.later ?_ _) | (with_reducible refine SinceOf.further ?_ _) | (with_reducible refine SinceOf.setCell ?_ (by first | exact Nat.le_refl _ | (simp; done) | omega | (simp; omega)) _)))) hgr3 (fun b hb => by have := (HH.out.1.below b hb).1; simp; omega)
          · have hkl : k = s.cals.length := by omega
            subst hkl
            have HH := Lib.hid (And.intro hown (And.intro hlone hal))
            have hgA : ∀ b, blockOf A2 = some b → b ≠ y1.wd.heap.size := fun b hb => by have := (hown.below b hb).1; omega
            clear hown hlone
            rw [hal]
            clear hal
            go_upto_region 12 with fail
            have g0 : (z.wd.setCell ⟨y1.wd.heap.size, 0, none⟩ (.slice A2 s.cals.length c2)).cell? ⟨y1.wd.heap.size, 0, none⟩ = some (.slice A2 s.cals.length c2) := by simp [go_sem]
            have g1 : (z.wd.setCell ⟨y1.wd.heap.size, 0, none⟩ (.slice A2 s.cals.length c2)).cell? ⟨y1.wd.heap.size, 1, none⟩ = some (.slice s.B s.rows.length s.d) := by simp [go_sem]
            have g2 : (z.wd.setCell ⟨y1.wd.heap.size, 0, none⟩ (.slice A2 s.cals.length c2)).cell? ⟨y1.wd.heap.size, 2, none⟩ = some (.int .i64 s.most) := by simp [go_sem]
            have hOg : Nonempty (Old (z.wd.setCell ⟨y1.wd.heap.size, 0, none⟩ (.slice A2 s.cals.length c2)) y1.wd.heap.size) := inferInstance
            have hln : Lone (y1.wd.heap.size + 1) (z.wd.setCell ⟨y1.wd.heap.size, 0, none⟩ (.slice A2 s.cals.length c2)) A2 AL := HH.out.2.1.setOther (by omega) _ _
            have hrow : IsRow encC 3 (z.wd.setCell ⟨y1.wd.heap.size, 0, none⟩ (.slice A2 s.cals.length c2)) A2 c2 AL := (HH.out.1.isRow encC_len).setOther _ _ _ hgA
            have hy1 : x3.wd.heap.size ≤ y1.wd.heap.size := y1.size
            have S4 : SinceOf x3.wd (z.wd.setCell ⟨y1.wd.heap.size, 0, none⟩ (.slice A2 s.cals.length c2)) := by (repeat (first | (with_reducible exact SinceOf.refl _) | (with_reducible assumption) | (with_reducible refine SinceOf.alloc ?_ _) | (with_reducible refine SinceOf.drew ?_) | (with_reducible refine SinceOf.drewN ?_ _) | (with_reducible refine SinceOf.later ?_ _) | (with_reducible refine SinceOf.further ?_ _) | (with_reducible refine SinceOf.setCell ?_ (by first | exact Nat.le_refl _ | (simp; done) | omega | (simp; omega)) _)))
            have hal := HH.out.2.2
            obtain ⟨v, hv⟩ := S4
            rw [hv] at g0 g1 g2 hOg hln hrow ⊢
            clear HH hv hzs hgA hk hgas hlt
            generalize y1.wd.heap.size = g at *
            have hshop : IsShop v.wd (shopW s A2 c2 AL) := hln.shop hrow (by omega) (H.out.1.rows.of (by (repeat (first | (with_reducible exact SinceOf.refl _) | (with_reducible assumption) | (with_reducible refine SinceOf.alloc ?_ _) | (with_reducible refine SinceOf.drew ?_) | (with_reducible refine SinceOf.drewN ?_ _) | (with_reducible refine SinceOf.later ?_ _) | (with_reducible refine SinceOf.further ?_ _) | (with_reducible refine SinceOf.setCell ?_ (by first | exact Nat.le_refl _ | (simp; done) | omega | (simp; omega)) _)))))
            have hopen := hln.open_
            have HG := Lib.hid (And.intro hshop (And.intro hopen hal))
            clear hln hrow hshop hopen hal
            have mk : True := trivial
            go_cut [10, 11] (fun s10 s11 wx => ∃ (jA : Option Addr) (jc : Nat) (kA : Option Addr) (kc : Nat), s10 = .slice jA L.length jc ∧ s11 = .slice kA L.length kc ∧ IsRow encJ 6 wx jA jc L ∧ Owns encJ 6 v.wd.heap.size 60 wx kA kc L ∧ (∀ b, blockOf jA = some b → blockOf kA ≠ some b) ∧ SinceOf v.wd wx)
            case first =>
              go_region_held3 (fun w' => w'.cell? ⟨w.heap.size, 3, none⟩ = some (.slice A L.length c)) ((simp [go_sem, *]))
                (first
                  | (clear mk; go_at_call 19; refine (jobs_any A c L _ (H.out.2.1.row.of (by (repeat (first | (with_reducible exact SinceOf.refl _) | (with_reducible assumption) | (with_reducible refine SinceOf.alloc ?_ _) | (with_reducible refine SinceOf.drew ?_) | (with_reducible refine SinceOf.drewN ?_ _) | (with_reducible refine SinceOf.later ?_ _) | (with_reducible refine SinceOf.further ?_ _) | (with_reducible refine SinceOf.setCell ?_ (by first | exact Nat.le_refl _ | (simp; done) | omega | (simp; omega)) _))))) (by omega)).mono ?_; rintro e _ ⟨j1, n1, rfl, ho1, ⟨q1, rfl⟩⟩)
                  | (go_at_call 19; refine (jobs_any A c L _ (H.out.2.1.row.of (by (repeat (first | (with_reducible exact SinceOf.refl _) | (with_reducible assumption) | (with_reducible refine SinceOf.alloc ?_ _) | (with_reducible refine SinceOf.drew ?_) | (with_reducible refine SinceOf.drewN ?_ _) | (with_reducible refine SinceOf.later ?_ _) | (with_reducible refine SinceOf.further ?_ _) | (with_reducible refine SinceOf.setCell ?_ (by first | exact Nat.le_refl _ | (simp; done) | omega | (simp; omega)) _))))) (by omega)).mono ?_; rintro e _ ⟨j2, n2, rfl, ho2, ⟨q2, rfl⟩⟩))
              all_goals
                go_wp2_with fail
                go_meet
                have e1 := q1.size
                have e2 := q2.size
                (try simp only [World.size_drew] at e1)
                first
                | exact ⟨j1, n1, j2, n2, rfl, rfl, (ho1.isRow encJ_len).of (by (repeat (first | (with_reducible exact SinceOf.refl _) | (with_reducible assumption) | (with_reducible refine SinceOf.alloc ?_ _) | (with_reducible refine SinceOf.drew ?_) | (with_reducible refine SinceOf.drewN ?_ _) | (with_reducible refine SinceOf.later ?_ _) | (with_reducible refine SinceOf.further ?_ _) | (with_reducible refine SinceOf.setCell ?_ (by first | exact Nat.le_refl _ | (simp; done) | omega | (simp; omega)) _)))), ho2.base_le (by omega), fun b hb hb2 => (by have h1 := (ho1.below b hb).2; have h2 := (ho2.below b hb2).1; omega), by (repeat (first | (with_reducible exact SinceOf.refl _) | (with_reducible assumption) | (with_reducible refine SinceOf.alloc ?_ _) | (with_reducible refine SinceOf.drew ?_) | (with_reducible refine SinceOf.drewN ?_ _) | (with_reducible refine SinceOf.later ?_ _) | (with_reducible refine SinceOf.further ?_ _) | (with_reducible refine SinceOf.setCell ?_ (by first | exact Nat.le_refl _ | (simp; done) | omega | (simp; omega)) _)))⟩
                | exact ⟨j2, n2, j1, n1, rfl, rfl, ho2.isRow encJ_len, (ho1.of (by (repeat (first | (with_reducible exact SinceOf.refl _) | (with_reducible assumption) | (with_reducible refine SinceOf.alloc ?_ _) | (with_reducible refine SinceOf.drew ?_) | (with_reducible refine SinceOf.drewN ?_ _) | (with_reducible refine SinceOf.later ?_ _) | (with_reducible refine SinceOf.further ?_ _) | (with_reducible refine SinceOf.setCell ?_ (by first | exact Nat.le_refl _ | (simp; done) | omega | (simp; omega)) _))))).base_le (by simp), fun b hb hb2 => (by have h1 := (ho1.below b hb2).2; have h2 := (ho2.below b hb).1; omega), by (repeat (first | (with_reducible exact SinceOf.refl _) | (with_reducible assumption) | (with_reducible refine SinceOf.alloc ?_ _) | (with_reducible refine SinceOf.drew ?_) | (with_reducible refine SinceOf.drewN ?_ _) | (with_reducible refine SinceOf.later ?_ _) | (with_reducible refine SinceOf.further ?_ _) | (with_reducible refine SinceOf.setCell ?_ (by first | exact Nat.le_refl _ | (simp; done) | omega | (simp; omega)) _)))⟩
            case rest =>
              obtain ⟨jA, jc, kA, kc, rfl, rfl, hrj, hok, hjk, ⟨v2, rfl⟩⟩ := hcut
              have hdb : 0 ≤ t % 5000 ∧ t % 5000 ≤ 5000 := by omega
              generalize t % 5000 = dd at *
              clear mk
              go_wp2_with fail
              have HJ0 := Lib.hid (And.intro hrj (And.intro hok hjk))
              clear hrj hok hjk
              go_loopg [66] L.length (fun gas s66 wr => ∃ k : Nat, k ≤ L.length ∧ L.length - k ≤ gas ∧ s66 = .int .i64 k ∧ IsRow encJ 6 wr jA jc L ∧ Owns encJ 6 v.wd.heap.size 60 wr kA kc (shTo dd k L) ∧ (∀ j ∈ L.take k, j.due ≤ 20000) ∧ SinceOf v.wd wr)
              case atStart => exact ⟨0, by omega, by omega, rfl, HJ0.out.1, HJ0.out.2.1, by simp, ⟨v2, rfl⟩⟩
              case round =>
                obtain ⟨k, hk, hgas, rfl, hrj, hok, hdue, ⟨z2, rfl⟩⟩ := hrel
                by_cases hlt : k < L.length
                · obtain ⟨gk, hkA, hgk, hlv⟩ := hok.live encJ_len (by rw [shTo_length]; omega)
                  subst hkA
                  have hr := hlv.row
                  have hO := hr.there
                  have hls : k < (shTo dd k L).length := by rw [shTo_length]; exact hlt
                  have j3 := hr.j3 k hls
                  have j4 := hr.j4 k hls
                  have f3 := hlv.free (k * 6 + 3) (by omega)
                  have f4 := hlv.free (k * 6 + 4) (by omega)
                  rw [shTo_at hlt] at j3 j4
                  simp only [Nat.zero_add] at j3 j4 f3 f4
                  have hjr := (job_parts (check_job HCK.out.1 (List.getElem_mem hlt))).2.2.2.2.1
                  have hjd := (job_parts (check_job HCK.out.1 (List.getElem_mem hlt))).2.2.2.2.2.1
                  have hts := List.take_succ_eq_append_getElem hlt
                  have HK := Lib.hid (And.intro hrj (And.intro hok (And.intro hdue hts)))
                  have hnx := HJ0.out.2.2
                  generalize hrv : L[k].rel = rv at *
                  generalize hdv : L[k].due = dv at *
                  have HV := Lib.hid (And.intro hrv hdv)
                  clear hrj hok hdue hts hr hlv hls hrv hdv
                  by_cases hd2 : 20000 < dv
                  · go_wp2_with fail
                    go_returns
                    exact ⟨rfl, by (repeat (first | (with_reducible exact SinceOf.refl _) | (with_reducible assumption) | (with_reducible refine SinceOf.alloc ?_ _) | (with_reducible refine SinceOf.drew ?_) | (with_reducible refine SinceOf.drewN ?_ _) | (with_reducible refine SinceOf.later ?_ _) | (with_reducible refine SinceOf.further ?_ _) | (with_reducible refine SinceOf.setCell ?_ (by first | exact Nat.le_refl _ | (simp; done) | omega | (simp; omega)) _)))⟩
                  · go_wp2_with fail
                    go_roundg (L.length - (k + 1))
                    case measure => omega
                    case rel =>
                      refine ⟨k + 1, hlt, Nat.le_refl _, by go_num, ?_, ?_, ?_, by (repeat (first | (with_reducible exact SinceOf.refl _) | (with_reducible assumption) | (with_reducible refine SinceOf.alloc ?_ _) | (with_reducible refine SinceOf.drew ?_) | (with_reducible refine SinceOf.drewN ?_ _) | (with_reducible refine SinceOf.later ?_ _) | (with_reducible refine SinceOf.further ?_ _) | (with_reducible refine SinceOf.setCell ?_ (by first | exact Nat.le_refl _ | (simp; done) | omega | (simp; omega)) _)))⟩
                      · exact (HK.out.1.setOther _ _ _ (fun b hb e => HJ0.out.2.2 b hb (by rw [e]; rfl))).setOther _ _ _ (fun b hb e => HJ0.out.2.2 b hb (by rw [e]; rfl))
                      · exact HK.out.2.1.shift hlt _ _ (by rw [HV.out.1]) (by rw [HV.out.2])
                      · intro j hj
                        rw [HK.out.2.2.2] at hj
                        rcases List.mem_append.1 hj with hj | hj
                        · exact HK.out.2.2.1 j hj
                        · obtain rfl : j = L[k] := by simpa using hj
                          rw [HV.out.2]; omega
                · have hkl : k = L.length := by omega
                  subst hkl
                  rw [shTo_all] at hok
                  rw [List.take_length] at hdue
                  have hrr : ∀ j ∈ L, j.rel ≤ 20000 ∧ j.due ≤ 20000 := fun j hj => ⟨HCK.out.2 j hj, hdue j hj⟩
                  have hs' : checkS (shopW s A2 c2 AL) L = true := check_always HCK.out.1 A2 c2 HG.out.2.2 HG.out.2.1
                  obtain ⟨hlist, hbd⟩ := list_later (s := shopW s A2 c2 AL) (order := order) hs' HG.out.2.1 hrr hdb (by omega)
                  have hsv : shopV (shopW s A2 c2 AL) = .agg #[.slice A2 s.cals.length c2, .slice s.B s.rows.length s.d, .int .i64 s.most] := by
                    show Value.agg #[.slice A2 AL.length c2, _, _] = _
                    rw [HG.out.2.2]; rfl
                  obtain ⟨⟨er, la, lf⟩, hr⟩ : ∃ r, r = listV (shopW s A2 c2 AL) L order := ⟨_, rfl⟩
                  have hll := list_len (shopW s A2 c2 AL) L order
                  rw [← hr] at hlist hbd hll
                  simp only at hlist hbd hll
                  have Sw : SinceOf w z2.wd := by (repeat (first | (with_reducible exact SinceOf.refl _) | (with_reducible assumption) | (with_reducible refine SinceOf.alloc ?_ _) | (with_reducible refine SinceOf.drew ?_) | (with_reducible refine SinceOf.drewN ?_ _) | (with_reducible refine SinceOf.later ?_ _) | (with_reducible refine SinceOf.further ?_ _) | (with_reducible refine SinceOf.setCell ?_ (by first | exact Nat.le_refl _ | (simp; done) | omega | (simp; omega)) _)))
                  have LC1 := fun W (hW : SinceOf z2.wd W) => list_gives (shopW s A2 c2 AL) jA jc L B d order W (HG.out.1.of (SinceOf.trans ⟨z2, rfl⟩ hW)) (jobs_at H.out.2.1 (hrj.of hW) (Sw.trans hW)) (H.out.2.2.of (Sw.trans hW)) (by omega) hr.symm hsv rfl
                  have LC2 := fun W (hW : SinceOf z2.wd W) => list_gives (shopW s A2 c2 AL) kA kc (L.map (shJ dd)) B d order W (HG.out.1.of (SinceOf.trans ⟨z2, rfl⟩ hW)) (jobs_map H.out.2.1 ((hok.isRow encJ_len).of hW) (Sw.trans hW)) (H.out.2.2.of (Sw.trans hW)) (by omega) hlist hsv (List.length_map _)
                  have HB := Lib.hid hbd
                  clear hrj hok hdue hrr hs' hlist hbd hsv hr
                  have q1 : (er != er) = false := by simp
                  go_wp2_with fail
                  refine (LC1 _ (by (repeat (first | (with_reducible exact SinceOf.refl _) | (with_reducible assumption) | (with_reducible refine SinceOf.alloc ?_ _) | (with_reducible refine SinceOf.drew ?_) | (with_reducible refine SinceOf.drewN ?_ _) | (with_reducible refine SinceOf.later ?_ _) | (with_reducible refine SinceOf.further ?_ _) | (with_reducible refine SinceOf.setCell ?_ (by first | exact Nat.le_refl _ | (simp; done) | omega | (simp; omega)) _))))).mono ?_
                  rintro e _ ⟨B1, b1, E1, f1, rfl, hs1, ⟨y5, rfl⟩⟩
                  go_wp2_with fail
                  refine (LC2 _ (by (repeat (first | (with_reducible exact SinceOf.refl _) | (with_reducible assumption) | (with_reducible refine SinceOf.alloc ?_ _) | (with_reducible refine SinceOf.drew ?_) | (with_reducible refine SinceOf.drewN ?_ _) | (with_reducible refine SinceOf.later ?_ _) | (with_reducible refine SinceOf.further ?_ _) | (with_reducible refine SinceOf.setCell ?_ (by first | exact Nat.le_refl _ | (simp; done) | omega | (simp; omega)) _))))).mono ?_
                  rintro e _ ⟨B2, b2, E2, f2, rfl, hs2, ⟨y6, rfl⟩⟩
                  have HS := Lib.hid (And.intro (IsRow.since hs1 y6) hs2)
                  clear hs1 hs2 LC1 LC2
                  rw [List.length_map]
                  go_wp2_with fail
                  go_loopg [129] la.length (fun gas s129 wr => ∃ k : Nat, k ≤ la.length ∧ la.length - k ≤ gas ∧ s129 = .int .i64 k ∧ LaterOf y6.wd wr)
                  case atStart => exact ⟨0, by omega, by omega, rfl, by (repeat (first | (with_reducible exact LaterOf.refl _) | (with_reducible refine LaterOf.alloc ?_ _) | (with_reducible refine LaterOf.drew ?_) | (with_reducible refine LaterOf.drewN ?_ _) | (with_reducible refine LaterOf.later ?_ _) | (with_reducible refine LaterOf.setCell ?_ (by first | exact Nat.le_refl _ | (simp; done) | omega | (simp; omega)) _)))⟩
                  case round =>
                    obtain ⟨k, hk, hgas, rfl, ⟨z3, rfl⟩⟩ := hrel
                    by_cases hlt : k < la.length
                    · obtain ⟨g1', o1', hB1, hr1⟩ := HS.out.1.at_ (by omega)
                      obtain ⟨g2', o2', hB2, hr2⟩ := HS.out.2.at_ (by rw [List.length_map]; omega)
                      subst hB1 hB2
                      have hO1 := hr1.there
                      have hO2 := hr2.there
                      have s0 := hr1.s0 k hlt
                      have s1 := hr1.s1 k hlt
                      have s2 := hr1.s2 k hlt
                      have s3 := hr1.s3 k hlt
                      have t0 := hr2.s0 k (by rw [List.length_map]; exact hlt)
                      have t1 := hr2.s1 k (by rw [List.length_map]; exact hlt)
                      have t2 := hr2.s2 k (by rw [List.length_map]; exact hlt)
                      have t3 := hr2.s3 k (by rw [List.length_map]; exact hlt)
                      rw [List.getElem_map] at t0 t1 t2 t3
                      have hb := HB.out _ (List.getElem_mem hlt)
                      generalize la[k] = x at *
                      obtain ⟨xj, xm, xs, xe⟩ := x
                      simp only [sh] at s0 s1 s2 s3 t0 t1 t2 t3 hb
                      have hq : eqC xj xm (xs + dd) (xe + dd) xj xm (xs + dd) (xe + dd) = true := by unfold eqC; simp
                      have w1 : IntKind.i64.wrap (xs + dd) = xs + dd := IntWalk.i64_in _ (by omega)
                      have w2 : IntKind.i64.wrap (xe + dd) = xe + dd := IntWalk.i64_in _ (by omega)
                      clear hr1 hr2
                      go_wp2_with fail
                      refine region_later (by kernel_rfl) (by kernel_rfl) ?_
                      repeat (go_big_quiet_step (fail))
                      refine wpQuiet_nil ?_
                      rintro _ ⟨z4, rfl⟩
                      clear w1 w2
                      go_wp2_with fail
                      go_roundg (la.length - (k + 1))
                      case measure => omega
                      case rel => exact ⟨k + 1, hlt, Nat.le_refl _, by go_num, by (repeat (first | (with_reducible exact LaterOf.refl _) | (with_reducible refine LaterOf.alloc ?_ _) | (with_reducible refine LaterOf.drew ?_) | (with_reducible refine LaterOf.drewN ?_ _) | (with_reducible refine LaterOf.later ?_ _) | (with_reducible refine LaterOf.setCell ?_ (by first | exact Nat.le_refl _ | (simp; done) | omega | (simp; omega)) _)))⟩
                    · go_wp2_with fail
                      go_returns
                      exact ⟨rfl, by (repeat (first | (with_reducible exact SinceOf.refl _) | (with_reducible assumption) | (with_reducible refine SinceOf.alloc ?_ _) | (with_reducible refine SinceOf.drew ?_) | (with_reducible refine SinceOf.drewN ?_ _) | (with_reducible refine SinceOf.later ?_ _) | (with_reducible refine SinceOf.further ?_ _) | (with_reducible refine SinceOf.setCell ?_ (by first | exact Nat.le_refl _ | (simp; done) | omega | (simp; omega)) _)))⟩
end Go.Proofs.Ytbceogoeoojdbaa
