/- Layer 16: NofitFirst. -/
import Derived.Test.YtbienlhofkfdpaaNofP4
import Derived.Deep.RegionHeld3
import Derived.Deep.CutBlock
namespace Go.Proofs.Ytbienlhofkfdpaa
open Go.RowKit Go.Sort
set_option linter.unusedVariables false
set_option linter.unusedSimpArgs false
attribute [local go_sem ↓] Go.wp_at_zero Go.wp_at_succ

theorem boxYs_near {ly hy : Int} (h1 : -100 ≤ ly) (h2 : hy ≤ 100) : boxYs ly hy = ysL ly (hy + 1 - ly).toNat := by
  unfold boxYs
  rw [imax_eq, imin_eq, show max ly (-8000) = ly by omega, show min hy 8000 = hy by omega]
theorem FirstV.nil_false {S : List (List Pt)} {lx hx L : Int} {o : (Int × Int) × Bool} (h : FirstV S lx hx (ysL L 0) o) : o.2 = false := by
  rw [show o = ((0, 0), false) from h]
set_option maxRecDepth 100000 in
set_option maxHeartbeats 16000000 in
theorem nofitFirst_any (A : Option Addr) (c : Nat) (X : List RgR) (lx ly hx hy : Int) (w : World) (h : IsRings w A c X) : Yields Try.prog 9 #[.slice A X.length c, .agg #[.int .i64 lx, .int .i64 ly, .int .i64 hx, .int .i64 hy]] w (.bool true) := by
  apply Yields.ret
  have SM := small16_any lx ly hx hy
  have H := Lib.hid h
  clear h
  cases hsm : smallB lx ly hx hy
  case false =>
    rw [hsm] at SM
    clear hsm
    go_enter Try.func9, Try.ntmps9
    go_wp2_with fail
    refine (awake16_any _).mono ?_
    rintro e _ ⟨rfl, x1, rfl⟩
    go_wp2_with fail
    refine (refFew16_any A c X _ (H.out.of (by (repeat (first | (with_reducible exact SinceOf.refl _) | (with_reducible assumption) | (with_reducible refine SinceOf.alloc ?_ _) | (with_reducible refine SinceOf.drew ?_) | (with_reducible refine SinceOf.drewN ?_ _) | (with_reducible refine SinceOf.later ?_ _) | (with_reducible refine SinceOf.further ?_ _) | (with_reducible refine SinceOf.setCell ?_ (by first | exact Nat.le_refl _ | (simp; done) | omega | (simp; omega)) _)))))).mono ?_
    rintro e _ ⟨b, rfl, hb, ⟨x2, rfl⟩⟩
    cases b
    · clear hb
      go_wp2_with fail
      go_returns
      exact ⟨rfl, by (repeat (first | (with_reducible exact SinceOf.refl _) | (with_reducible assumption) | (with_reducible refine SinceOf.alloc ?_ _) | (with_reducible refine SinceOf.drew ?_) | (with_reducible refine SinceOf.drewN ?_ _) | (with_reducible refine SinceOf.later ?_ _) | (with_reducible refine SinceOf.further ?_ _) | (with_reducible refine SinceOf.setCell ?_ (by first | exact Nat.le_refl _ | (simp; done) | omega | (simp; omega)) _)))⟩
    · clear hb
      go_wp2_with fail
      refine (SM _).calls.mono ?_
      rintro e _ ⟨rfl, x3, rfl⟩
      go_wp2_with fail
      go_returns
      exact ⟨rfl, by (repeat (first | (with_reducible exact SinceOf.refl _) | (with_reducible assumption) | (with_reducible refine SinceOf.alloc ?_ _) | (with_reducible refine SinceOf.drew ?_) | (with_reducible refine SinceOf.drewN ?_ _) | (with_reducible refine SinceOf.later ?_ _) | (with_reducible refine SinceOf.further ?_ _) | (with_reducible refine SinceOf.setCell ?_ (by first | exact Nat.le_refl _ | (simp; done) | omega | (simp; omega)) _)))⟩
  rw [hsm] at SM
  have hbx : (-100 ≤ lx ∧ -100 ≤ ly ∧ hx ≤ 100 ∧ hy ≤ 100) ∧ lx ≤ 100 ∧ ly ≤ 100 ∧ -100 ≤ hx ∧ -100 ≤ hy := by
    unfold smallB at hsm
    simp only [Bool.and_eq_true] at hsm
    have h1 := within100 hsm.1.1.1
    have h2 := within100 hsm.1.1.2
    omega
  obtain ⟨⟨bx1, bx2, bx3, bx4⟩, bx5, bx6, bx7, bx8⟩ := hbx
  have q1 : IntKind.i64.wrap (hx - lx) = hx - lx := IntWalk.i64_in _ (by omega)
  have q2 : IntKind.i64.wrap (hy - ly) = hy - ly := IntWalk.i64_in _ (by omega)
  clear hsm
  by_cases g1 : 15 < hx - lx
  · have e1 : decide (15 < hx - lx) = true := decide_eq_true g1
    clear g1
    go_enter Try.func9, Try.ntmps9
    go_wp2_with fail
    refine (awake16_any _).mono ?_
    rintro e _ ⟨rfl, x1, rfl⟩
    go_wp2_with fail
    refine (refFew16_any A c X _ (H.out.of (by (repeat (first | (with_reducible exact SinceOf.refl _) | (with_reducible assumption) | (with_reducible refine SinceOf.alloc ?_ _) | (with_reducible refine SinceOf.drew ?_) | (with_reducible refine SinceOf.drewN ?_ _) | (with_reducible refine SinceOf.later ?_ _) | (with_reducible refine SinceOf.further ?_ _) | (with_reducible refine SinceOf.setCell ?_ (by first | exact Nat.le_refl _ | (simp; done) | omega | (simp; omega)) _)))))).mono ?_
    rintro e _ ⟨b, rfl, hb, ⟨x2, rfl⟩⟩
    cases b
    · clear hb
      go_wp2_with fail
      go_returns
      exact ⟨rfl, by (repeat (first | (with_reducible exact SinceOf.refl _) | (with_reducible assumption) | (with_reducible refine SinceOf.alloc ?_ _) | (with_reducible refine SinceOf.drew ?_) | (with_reducible refine SinceOf.drewN ?_ _) | (with_reducible refine SinceOf.later ?_ _) | (with_reducible refine SinceOf.further ?_ _) | (with_reducible refine SinceOf.setCell ?_ (by first | exact Nat.le_refl _ | (simp; done) | omega | (simp; omega)) _)))⟩
    · clear hb
      go_wp2_with fail
      refine (SM _).calls.mono ?_
      rintro e _ ⟨rfl, x3, rfl⟩
      go_wp2_with fail
      go_returns
      exact ⟨rfl, by (repeat (first | (with_reducible exact SinceOf.refl _) | (with_reducible assumption) | (with_reducible refine SinceOf.alloc ?_ _) | (with_reducible refine SinceOf.drew ?_) | (with_reducible refine SinceOf.drewN ?_ _) | (with_reducible refine SinceOf.later ?_ _) | (with_reducible refine SinceOf.further ?_ _) | (with_reducible refine SinceOf.setCell ?_ (by first | exact Nat.le_refl _ | (simp; done) | omega | (simp; omega)) _)))⟩
  have e1 : decide (15 < hx - lx) = false := decide_eq_false g1
  by_cases g2 : 15 < hy - ly
  · have e2 : decide (15 < hy - ly) = true := decide_eq_true g2
    clear g1 g2
    go_enter Try.func9, Try.ntmps9
    go_wp2_with fail
    refine (awake16_any _).mono ?_
    rintro e _ ⟨rfl, x1, rfl⟩
    go_wp2_with fail
    refine (refFew16_any A c X _ (H.out.of (by (repeat (first | (with_reducible exact SinceOf.refl _) | (with_reducible assumption) | (with_reducible refine SinceOf.alloc ?_ _) | (with_reducible refine SinceOf.drew ?_) | (with_reducible refine SinceOf.drewN ?_ _) | (with_reducible refine SinceOf.later ?_ _) | (with_reducible refine SinceOf.further ?_ _) | (with_reducible refine SinceOf.setCell ?_ (by first | exact Nat.le_refl _ | (simp; done) | omega | (simp; omega)) _)))))).mono ?_
    rintro e _ ⟨b, rfl, hb, ⟨x2, rfl⟩⟩
    cases b
    · clear hb
      go_wp2_with fail
      go_returns
      exact ⟨rfl, by (repeat (first | (with_reducible exact SinceOf.refl _) | (with_reducible assumption) | (with_reducible refine SinceOf.alloc ?_ _) | (with_reducible refine SinceOf.drew ?_) | (with_reducible refine SinceOf.drewN ?_ _) | (with_reducible refine SinceOf.later ?_ _) | (with_reducible refine SinceOf.further ?_ _) | (with_reducible refine SinceOf.setCell ?_ (by first | exact Nat.le_refl _ | (simp; done) | omega | (simp; omega)) _)))⟩
    · clear hb
      go_wp2_with fail
      refine (SM _).calls.mono ?_
      rintro e _ ⟨rfl, x3, rfl⟩
      go_wp2_with fail
      go_returns
      exact ⟨rfl, by (repeat (first | (with_reducible exact SinceOf.refl _) | (with_reducible assumption) | (with_reducible refine SinceOf.alloc ?_ _) | (with_reducible refine SinceOf.drew ?_) | (with_reducible refine SinceOf.drewN ?_ _) | (with_reducible refine SinceOf.later ?_ _) | (with_reducible refine SinceOf.further ?_ _) | (with_reducible refine SinceOf.setCell ?_ (by first | exact Nat.le_refl _ | (simp; done) | omega | (simp; omega)) _)))⟩
  have e2 : decide (15 < hy - ly) = false := decide_eq_false g2
  obtain ⟨N, hN⟩ : ∃ N, N = (hy + 1 - ly).toNat := ⟨_, rfl⟩
  obtain ⟨M, hM⟩ : ∃ M, M = (hx + 1 - lx).toNat := ⟨_, rfl⟩
  have hN16 : N ≤ 16 := by omega
  have hM16 : M ≤ 16 := by omega
  have HNM := Lib.hid (And.intro hN hM)
  have hbY := boxYs_near (ly := ly) (hy := hy) bx2 bx4
  rw [← hN] at hbY
  clear g1 g2 hN hM
  go_enter Try.func9, Try.ntmps9
  go_wp2_with fail
  refine (awake16_any _).mono ?_
  rintro e _ ⟨rfl, x1, rfl⟩
  go_wp2_with fail
  refine (refFew16_any A c X _ (H.out.of (by (repeat (first | (with_reducible exact SinceOf.refl _) | (with_reducible assumption) | (with_reducible refine SinceOf.alloc ?_ _) | (with_reducible refine SinceOf.drew ?_) | (with_reducible refine SinceOf.drewN ?_ _) | (with_reducible refine SinceOf.later ?_ _) | (with_reducible refine SinceOf.further ?_ _) | (with_reducible refine SinceOf.setCell ?_ (by first | exact Nat.le_refl _ | (simp; done) | omega | (simp; omega)) _)))))).mono ?_
  rintro e _ ⟨b, rfl, hb, ⟨x2, rfl⟩⟩
  cases b
  · clear hb
    go_wp2_with fail
    go_returns
    exact ⟨rfl, by (repeat (first | (with_reducible exact SinceOf.refl _) | (with_reducible assumption) | (with_reducible refine SinceOf.alloc ?_ _) | (with_reducible refine SinceOf.drew ?_) | (with_reducible refine SinceOf.drewN ?_ _) | (with_reducible refine SinceOf.later ?_ _) | (with_reducible refine SinceOf.further ?_ _) | (with_reducible refine SinceOf.setCell ?_ (by first | exact Nat.le_refl _ | (simp; done) | omega | (simp; omega)) _)))⟩
  have hf := hb rfl
  have hs : ∀ x ∈ X, x.xs.length ≤ 100000 := fun x hx => by have := (hf.1 x hx).1; omega
  have hX : X.length ≤ 10000 := by have := hf.2; omega
  have HS := Lib.hid (And.intro hs hX)
  clear hb hf hs hX
  go_wp2_with fail
  refine (SM _).calls.mono ?_
  rintro e _ ⟨rfl, x3, rfl⟩
  clear SM
  go_wp2_with fail
  clear q1 q2 e1 e2
  refine (first_any A c X lx ly hx hy _ (H.out.of (by (repeat (first | (with_reducible exact SinceOf.refl _) | (with_reducible assumption) | (with_reducible refine SinceOf.alloc ?_ _) | (with_reducible refine SinceOf.drew ?_) | (with_reducible refine SinceOf.drewN ?_ _) | (with_reducible refine SinceOf.later ?_ _) | (with_reducible refine SinceOf.further ?_ _) | (with_reducible refine SinceOf.setCell ?_ (by first | exact Nat.le_refl _ | (simp; done) | omega | (simp; omega)) _))))) HS.out.1 HS.out.2).mono ?_
  rintro e _ ⟨fx, fy, ok, rfl, hf1, ⟨y1, rfl⟩⟩
  rw [hbY] at hf1
  have HF := Lib.hid (And.intro hf1 hbY)
  clear hf1 hbY
  have HYW := Lib.hid (show SinceOf w y1.wd by (repeat (first | (with_reducible exact SinceOf.refl _) | (with_reducible assumption) | (with_reducible refine SinceOf.alloc ?_ _) | (with_reducible refine SinceOf.drew ?_) | (with_reducible refine SinceOf.drewN ?_ _) | (with_reducible refine SinceOf.later ?_ _) | (with_reducible refine SinceOf.further ?_ _) | (with_reducible refine SinceOf.setCell ?_ (by first | exact Nat.le_refl _ | (simp; done) | omega | (simp; omega)) _))))
  have bc : (y1.wd.cell? ⟨w.heap.size, 0, none⟩ = some (.int .i64 lx) ∧ y1.wd.cell? ⟨w.heap.size, 1, none⟩ = some (.int .i64 ly) ∧ y1.wd.cell? ⟨w.heap.size, 2, none⟩ = some (.int .i64 hx) ∧ y1.wd.cell? ⟨w.heap.size, 3, none⟩ = some (.int .i64 hy)) ∧ w.heap.size < y1.wd.heap.size := by
    have h3 := x3.size
    have h1 := y1.size
    refine ⟨⟨?_, ?_, ?_, ?_⟩, ?_⟩
    all_goals first | (simp [go_sem]; done) | (have hq1 := x1.size; have hq2 := x2.size; simp only [World.size_alloc] at *; omega)
  have ob : Nonempty (Old y1.wd w.heap.size) := ⟨⟨bc.2⟩⟩
  obtain ⟨⟨bc0, bc1, bc2, bc3⟩, -⟩ := bc
  go_wp2_with fail
  go_loopg [8, 9, 10] N (fun gas s8 s9 s10 wr => ∃ (n : Nat) (fd : Bool) (cnt y : Int), s8 = .bool fd ∧ s9 = .int .i64 cnt ∧ s10 = .int .i64 y ∧ y = ly + n ∧ n ≤ N ∧ N - n ≤ gas ∧ OutI (vxs X) lx hx ly N n ((fx, fy), ok) fd cnt ∧ SinceOf (y1.wd.alloc (.cells #[.int .i64 fx, .int .i64 fy] 37)) wr)
  case atStart => exact ⟨0, false, 0, ly, rfl, rfl, rfl, by omega, Nat.zero_le _, by omega, OutI.start HF.out.1, by (repeat (first | (with_reducible exact SinceOf.refl _) | (with_reducible assumption) | (with_reducible refine SinceOf.alloc ?_ _) | (with_reducible refine SinceOf.drew ?_) | (with_reducible refine SinceOf.drewN ?_ _) | (with_reducible refine SinceOf.later ?_ _) | (with_reducible refine SinceOf.further ?_ _) | (with_reducible refine SinceOf.setCell ?_ (by first | exact Nat.le_refl _ | (simp; done) | omega | (simp; omega)) _)))⟩
  case round =>
    obtain ⟨n, fd, cnt, y, rfl, rfl, rfl, hyn, hn, hgas, hO, ⟨z, rfl⟩⟩ := hrel
    have hwz : SinceOf w z.wd := SinceOf.trans (SinceOf.alloc HYW.out _) ⟨z, rfl⟩
    have zc0 : z.wd.cell? ⟨w.heap.size, 0, none⟩ = some (.int .i64 lx) := by rw [Since.cell, cell_old]; exact bc0
    have zc1 : z.wd.cell? ⟨w.heap.size, 1, none⟩ = some (.int .i64 ly) := by rw [Since.cell, cell_old]; exact bc1
    have zc2 : z.wd.cell? ⟨w.heap.size, 2, none⟩ = some (.int .i64 hx) := by rw [Since.cell, cell_old]; exact bc2
    have zc3 : z.wd.cell? ⟨w.heap.size, 3, none⟩ = some (.int .i64 hy) := by rw [Since.cell, cell_old]; exact bc3
    have zf0 : z.wd.cell? ⟨y1.wd.heap.size, 0, none⟩ = some (.int .i64 fx) := by rw [Since.cell]; simp
    have zf1 : z.wd.cell? ⟨y1.wd.heap.size, 1, none⟩ = some (.int .i64 fy) := by rw [Since.cell]; simp
    have zo1 : Nonempty (Old z.wd w.heap.size) := inferInstance
    have zo2 : Nonempty (Old z.wd y1.wd.heap.size) := inferInstance
    have hcb := And.intro hO.lo hO.hi
    have HO := Lib.hid hO
    clear hO bc0 bc1 bc2 bc3
    by_cases hlt : n < N
    · have hNM := HNM.out.1
      have hy8 : ly ≤ y ∧ y ≤ hy := by omega
      have HY := Lib.hid hyn
      clear hNM hyn
      go_wp2_with fail
      refine (nofRow_any A c X y lx hx _ (H.out.of (by (repeat (first | (with_reducible exact SinceOf.refl _) | (with_reducible assumption) | (with_reducible refine SinceOf.alloc ?_ _) | (with_reducible refine SinceOf.drew ?_) | (with_reducible refine SinceOf.drewN ?_ _) | (with_reducible refine SinceOf.later ?_ _) | (with_reducible refine SinceOf.further ?_ _) | (with_reducible refine SinceOf.setCell ?_ (by first | exact Nat.le_refl _ | (simp; done) | omega | (simp; omega)) _))))) HS.out.1 HS.out.2).mono ?_
      rintro e _ ⟨A1, c1, l, rfl, hr1, ho1, ⟨y2, rfl⟩⟩
      have htot := hr1.tot
      have hlen := len_le_tot (l := l) (fun f hf => (hr1.bnd f hf).1)
      have hlb : l.length ≤ 16001 := by omega
      have HR := Lib.hid (And.intro hr1 (And.intro (ho1.isRow encV_len) (And.intro htot hwz)))
      clear hr1 ho1 htot hlen hwz
      go_wp2_with fail
      have zb0 : y2.wd.cell? ⟨w.heap.size, 0, none⟩ = some (.int .i64 lx) := by rw [Since.cell]; exact zc0
      have zb1 : y2.wd.cell? ⟨w.heap.size, 1, none⟩ = some (.int .i64 ly) := by rw [Since.cell]; exact zc1
      have zb2 : y2.wd.cell? ⟨w.heap.size, 2, none⟩ = some (.int .i64 hx) := by rw [Since.cell]; exact zc2
      have zb3 : y2.wd.cell? ⟨w.heap.size, 3, none⟩ = some (.int .i64 hy) := by rw [Since.cell]; exact zc3
      have zg0 : y2.wd.cell? ⟨y1.wd.heap.size, 0, none⟩ = some (.int .i64 fx) := by rw [Since.cell]; exact zf0
      have zg1 : y2.wd.cell? ⟨y1.wd.heap.size, 1, none⟩ = some (.int .i64 fy) := by rw [Since.cell]; exact zf1
      have zp1 : Nonempty (Old y2.wd w.heap.size) := inferInstance
      have zp2 : Nonempty (Old y2.wd y1.wd.heap.size) := inferInstance
      clear zc0 zc1 zc2 zc3 zf0 zf1
      have hcb2 := HR.out.2.2.1
      go_loopg [8, 9, 12, 13] M (fun gas s8 s9 s12 s13 wr => ∃ (m k : Nat) (fd2 : Bool) (cnt2 x : Int), s8 = .bool fd2 ∧ s9 = .int .i64 cnt2 ∧ s12 = .int .i64 k ∧ s13 = .int .i64 x ∧ x = lx + m ∧ m ≤ M ∧ M - m ≤ gas ∧ k ≤ l.length ∧ (∀ j (h : j < l.length), j < k → l[j].2 < x) ∧ InI l x fd fd2 cnt cnt2 ((fx, fy), ok) ∧ SinceOf y2.wd wr)
      case atStart => exact ⟨0, 0, fd, cnt, lx, rfl, rfl, rfl, rfl, by omega, Nat.zero_le _, by omega, Nat.zero_le _, (fun j h h' => by omega), InI.start HO.out (by rw [← HY.out]; exact HR.out.1), by (repeat (first | (with_reducible exact SinceOf.refl _) | (with_reducible assumption) | (with_reducible refine SinceOf.alloc ?_ _) | (with_reducible refine SinceOf.drew ?_) | (with_reducible refine SinceOf.drewN ?_ _) | (with_reducible refine SinceOf.later ?_ _) | (with_reducible refine SinceOf.further ?_ _) | (with_reducible refine SinceOf.setCell ?_ (by first | exact Nat.le_refl _ | (simp; done) | omega | (simp; omega)) _)))⟩
      case round =>
        obtain ⟨m, k, fd2, cnt2, x, rfl, rfl, rfl, rfl, hxm, hm, hgas2, hk, hall, hI, ⟨v, rfl⟩⟩ := hrel
        have hb2 := hI.bound (fun f hf => (HR.out.1.bnd f hf).1)
        have HI := Lib.hid (And.intro hI hall)
        clear hI hall
        by_cases hlt2 : m < M
        · have hNM := HNM.out.2
          have hx8 : lx ≤ x ∧ x ≤ hx := by omega
          have HX := Lib.hid hxm
          clear hNM hxm
          go_upto_block 4 with fail
          go_cut [12] (fun s12 wx => ∃ k2 : Nat, s12 = .int .i64 k2 ∧ k2 ≤ l.length ∧ (∀ j (h : j < l.length), j < k2 → l[j].2 < x) ∧ (∀ h : k2 < l.length, x ≤ l[k2].2) ∧ SinceOf v.wd wx)
          case first =>
            go_wp2_with fail
            go_loopg [12] l.length (fun gas s12 wz => ∃ k2 : Nat, s12 = .int .i64 k2 ∧ k2 ≤ l.length ∧ l.length - k2 ≤ gas ∧ (∀ j (h : j < l.length), j < k2 → l[j].2 < x) ∧ SinceOf v.wd wz)
            case atStart => exact ⟨k, rfl, hk, by omega, HI.out.2, by (repeat (first | (with_reducible exact SinceOf.refl _) | (with_reducible assumption) | (with_reducible refine SinceOf.alloc ?_ _) | (with_reducible refine SinceOf.drew ?_) | (with_reducible refine SinceOf.drewN ?_ _) | (with_reducible refine SinceOf.later ?_ _) | (with_reducible refine SinceOf.further ?_ _) | (with_reducible refine SinceOf.setCell ?_ (by first | exact Nat.le_refl _ | (simp; done) | omega | (simp; omega)) _)))⟩
            case round =>
              obtain ⟨k2, rfl, hk2, hgas5, hall2, ⟨v3, rfl⟩⟩ := hrel
              have HA2 := Lib.hid hall2
              clear hall2
              by_cases hlt5 : k2 < l.length
              · obtain ⟨g, off, hA, hr⟩ := (HR.out.2.1.of (w' := v3.wd) (by (repeat (first | (with_reducible exact SinceOf.refl _) | (with_reducible assumption) | (with_reducible refine SinceOf.alloc ?_ _) | (with_reducible refine SinceOf.drew ?_) | (with_reducible refine SinceOf.drewN ?_ _) | (with_reducible refine SinceOf.later ?_ _) | (with_reducible refine SinceOf.further ?_ _) | (with_reducible refine SinceOf.setCell ?_ (by first | exact Nat.le_refl _ | (simp; done) | omega | (simp; omega)) _))))).at_ (by omega)
                subst hA
                have hOg := hr.there
                have a1 := hr.v1 k2 hlt5
                clear hr
                by_cases hlt6 : l[k2].2 < x
                · have HL6 := Lib.hid hlt6
                  have g6 : decide (l[k2].2 < x) = true := decide_eq_true hlt6
                  clear hlt6
                  generalize l[k2].2 = qy at a1 g6
                  go_wp2_with fail
                  go_roundg (l.length - (k2 + 1))
                  case measure => omega
                  case rel => exact ⟨k2 + 1, by go_num, hlt5, Nat.le_refl _, fun j hj hj2 => by
                    by_cases e : j = k2
                    · subst e; exact HL6.out
                    · exact HA2.out j hj (by omega), by (repeat (first | (with_reducible exact SinceOf.refl _) | (with_reducible assumption) | (with_reducible refine SinceOf.alloc ?_ _) | (with_reducible refine SinceOf.drew ?_) | (with_reducible refine SinceOf.drewN ?_ _) | (with_reducible refine SinceOf.later ?_ _) | (with_reducible refine SinceOf.further ?_ _) | (with_reducible refine SinceOf.setCell ?_ (by first | exact Nat.le_refl _ | (simp; done) | omega | (simp; omega)) _)))⟩
                · have HL6 := Lib.hid hlt6
                  have g6 : decide (l[k2].2 < x) = false := decide_eq_false hlt6
                  clear hlt6
                  generalize l[k2].2 = qy at a1 g6
                  go_wp2_with fail
                  go_meet
                  exact ⟨k2, rfl, hk2, HA2.out, fun _ => by have := HL6.out; omega, by (repeat (first | (with_reducible exact SinceOf.refl _) | (with_reducible assumption) | (with_reducible refine SinceOf.alloc ?_ _) | (with_reducible refine SinceOf.drew ?_) | (with_reducible refine SinceOf.drewN ?_ _) | (with_reducible refine SinceOf.later ?_ _) | (with_reducible refine SinceOf.further ?_ _) | (with_reducible refine SinceOf.setCell ?_ (by first | exact Nat.le_refl _ | (simp; done) | omega | (simp; omega)) _)))⟩
              · go_wp2_with fail
                go_meet
                exact ⟨k2, rfl, hk2, HA2.out, fun h => absurd h hlt5, by (repeat (first | (with_reducible exact SinceOf.refl _) | (with_reducible assumption) | (with_reducible refine SinceOf.alloc ?_ _) | (with_reducible refine SinceOf.drew ?_) | (with_reducible refine SinceOf.drewN ?_ _) | (with_reducible refine SinceOf.later ?_ _) | (with_reducible refine SinceOf.further ?_ _) | (with_reducible refine SinceOf.setCell ?_ (by first | exact Nat.le_refl _ | (simp; done) | omega | (simp; omega)) _)))⟩
          case rest =>
            obtain ⟨k2, rfl, hk2, hall2, hge2, ⟨v3, rfl⟩⟩ := hcut
            have hmi := memI_at HR.out.1.1 (x := x) (k := k2) hall2 hge2
            have hrw := HR.out.1.2 x
            have FO := forbidden_any A c X x y
            have hnext : SinceOf w v3.wd := SinceOf.trans HR.out.2.2.2 (by (repeat (first | (with_reducible exact SinceOf.refl _) | (with_reducible assumption) | (with_reducible refine SinceOf.alloc ?_ _) | (with_reducible refine SinceOf.drew ?_) | (with_reducible refine SinceOf.drewN ?_ _) | (with_reducible refine SinceOf.later ?_ _) | (with_reducible refine SinceOf.further ?_ _) | (with_reducible refine SinceOf.setCell ?_ (by first | exact Nat.le_refl _ | (simp; done) | omega | (simp; omega)) _))))
            have HN := Lib.hid (And.intro hall2 hnext)
            clear hall2 hge2 hnext
            by_cases hm : MemI x l
            · obtain ⟨hk3, hle3⟩ := hmi.1 hm
              have hfb : forbB (vxs X) (x, y) = false := (hrw.1 hm).2.2.2.2
              rw [hfb] at FO
              obtain ⟨g, off, hA, hr⟩ := (HR.out.2.1.of (w' := v3.wd) (by (repeat (first | (with_reducible exact SinceOf.refl _) | (with_reducible assumption) | (with_reducible refine SinceOf.alloc ?_ _) | (with_reducible refine SinceOf.drew ?_) | (with_reducible refine SinceOf.drewN ?_ _) | (with_reducible refine SinceOf.later ?_ _) | (with_reducible refine SinceOf.further ?_ _) | (with_reducible refine SinceOf.setCell ?_ (by first | exact Nat.le_refl _ | (simp; done) | omega | (simp; omega)) _))))).at_ (by omega)
              subst hA
              have hOg := hr.there
              have a0 := hr.v0 k2 hk3
              have g6 : decide (l[k2].1 ≤ x) = true := decide_eq_true hle3
              have HM := Lib.hid hm
              clear hr hmi hrw hfb hle3 hm
              generalize l[k2].1 = px at a0 g6
              cases fd2
              · have hfo := HI.out.1.first HO.out (by rw [← HY.out]; exact HR.out.1) hlt HM.out
                simp only [Prod.mk.injEq] at hfo
                obtain ⟨⟨hfx, hfy⟩, hok⟩ := hfo
                have qe : eqv x y fx fy = true := by rw [hfx, hfy, ← HY.out]; simp [eqv]
                have HQ := Lib.hid hok
                clear hfx hfy hok
                go_wp2_with fail
                refine (FO _ (H.out.of (by (repeat (first | (with_reducible exact SinceOf.refl _) | (with_reducible assumption) | (with_reducible refine SinceOf.alloc ?_ _) | (with_reducible refine SinceOf.drew ?_) | (with_reducible refine SinceOf.drewN ?_ _) | (with_reducible refine SinceOf.later ?_ _) | (with_reducible refine SinceOf.further ?_ _) | (with_reducible refine SinceOf.setCell ?_ (by first | exact Nat.le_refl _ | (simp; done) | omega | (simp; omega)) _))))) HS.out.1).calls.mono ?_
                rintro e _ ⟨rfl, x5, rfl⟩
                go_wp2_with fail
                go_roundg (M - (m + 1))
                case measure => omega
                case rel => exact ⟨m + 1, k2, true, cnt2 + 1, x + 1, rfl, by go_num, rfl, by go_num, by have := HX.out; omega, hlt2, Nat.le_refl _, hk2, fun j h1 h2 => by have := HN.out.1 j h1 h2; omega, HI.out.1.more HR.out.1.1 HM.out HQ.out, by (repeat (first | (with_reducible exact SinceOf.refl _) | (with_reducible assumption) | (with_reducible refine SinceOf.alloc ?_ _) | (with_reducible refine SinceOf.drew ?_) | (with_reducible refine SinceOf.drewN ?_ _) | (with_reducible refine SinceOf.later ?_ _) | (with_reducible refine SinceOf.further ?_ _) | (with_reducible refine SinceOf.setCell ?_ (by first | exact Nat.le_refl _ | (simp; done) | omega | (simp; omega)) _)))⟩
              · go_wp2_with fail
                refine (FO _ (H.out.of (by (repeat (first | (with_reducible exact SinceOf.refl _) | (with_reducible assumption) | (with_reducible refine SinceOf.alloc ?_ _) | (with_reducible refine SinceOf.drew ?_) | (with_reducible refine SinceOf.drewN ?_ _) | (with_reducible refine SinceOf.later ?_ _) | (with_reducible refine SinceOf.further ?_ _) | (with_reducible refine SinceOf.setCell ?_ (by first | exact Nat.le_refl _ | (simp; done) | omega | (simp; omega)) _))))) HS.out.1).calls.mono ?_
                rintro e _ ⟨rfl, x5, rfl⟩
                go_wp2_with fail
                go_roundg (M - (m + 1))
                case measure => omega
                case rel => exact ⟨m + 1, k2, true, cnt2 + 1, x + 1, rfl, by go_num, rfl, by go_num, by have := HX.out; omega, hlt2, Nat.le_refl _, hk2, fun j h1 h2 => by have := HN.out.1 j h1 h2; omega, HI.out.1.more HR.out.1.1 HM.out (HI.out.1.yes rfl), by (repeat (first | (with_reducible exact SinceOf.refl _) | (with_reducible assumption) | (with_reducible refine SinceOf.alloc ?_ _) | (with_reducible refine SinceOf.drew ?_) | (with_reducible refine SinceOf.drewN ?_ _) | (with_reducible refine SinceOf.later ?_ _) | (with_reducible refine SinceOf.further ?_ _) | (with_reducible refine SinceOf.setCell ?_ (by first | exact Nat.le_refl _ | (simp; done) | omega | (simp; omega)) _)))⟩
            · have hfb : forbB (vxs X) (x, y) = true := by
                cases q : forbB (vxs X) (x, y)
                · exact absurd (hrw.2 ⟨by omega, by omega, by omega, by omega, q⟩) hm
                · rfl
              rw [hfb] at FO
              have HM := Lib.hid (And.intro hm hmi)
              clear hrw hfb hmi hm
              by_cases hk3 : k2 < l.length
              · obtain ⟨g, off, hA, hr⟩ := (HR.out.2.1.of (w' := v3.wd) (by (repeat (first | (with_reducible exact SinceOf.refl _) | (with_reducible assumption) | (with_reducible refine SinceOf.alloc ?_ _) | (with_reducible refine SinceOf.drew ?_) | (with_reducible refine SinceOf.drewN ?_ _) | (with_reducible refine SinceOf.later ?_ _) | (with_reducible refine SinceOf.further ?_ _) | (with_reducible refine SinceOf.setCell ?_ (by first | exact Nat.le_refl _ | (simp; done) | omega | (simp; omega)) _))))).at_ (by omega)
                subst hA
                have hOg := hr.there
                have a0 := hr.v0 k2 hk3
                have g6 : decide (l[k2].1 ≤ x) = false := decide_eq_false fun q => HM.out.1 (HM.out.2.2 ⟨hk3, q⟩)
                clear hr
                generalize l[k2].1 = px at a0 g6
                cases fd2
                all_goals
                  go_wp2_with fail
                  refine (FO _ (H.out.of (by (repeat (first | (with_reducible exact SinceOf.refl _) | (with_reducible assumption) | (with_reducible refine SinceOf.alloc ?_ _) | (with_reducible refine SinceOf.drew ?_) | (with_reducible refine SinceOf.drewN ?_ _) | (with_reducible refine SinceOf.later ?_ _) | (with_reducible refine SinceOf.further ?_ _) | (with_reducible refine SinceOf.setCell ?_ (by first | exact Nat.le_refl _ | (simp; done) | omega | (simp; omega)) _))))) HS.out.1).calls.mono ?_
                  rintro e _ ⟨rfl, x5, rfl⟩
                  go_wp2_with fail
                  go_roundg (M - (m + 1))
                  case measure => omega
                  case rel => exact ⟨m + 1, k2, _, cnt2, x + 1, rfl, rfl, rfl, by go_num, by have := HX.out; omega, hlt2, Nat.le_refl _, hk2, fun j h1 h2 => by have := HN.out.1 j h1 h2; omega, HI.out.1.skip HR.out.1.1 HM.out.1, by (repeat (first | (with_reducible exact SinceOf.refl _) | (with_reducible assumption) | (with_reducible refine SinceOf.alloc ?_ _) | (with_reducible refine SinceOf.drew ?_) | (with_reducible refine SinceOf.drewN ?_ _) | (with_reducible refine SinceOf.later ?_ _) | (with_reducible refine SinceOf.further ?_ _) | (with_reducible refine SinceOf.setCell ?_ (by first | exact Nat.le_refl _ | (simp; done) | omega | (simp; omega)) _)))⟩
              · cases fd2
                all_goals
                  go_wp2_with fail
                  refine (FO _ (H.out.of (by (repeat (first | (with_reducible exact SinceOf.refl _) | (with_reducible assumption) | (with_reducible refine SinceOf.alloc ?_ _) | (with_reducible refine SinceOf.drew ?_) | (with_reducible refine SinceOf.drewN ?_ _) | (with_reducible refine SinceOf.later ?_ _) | (with_reducible refine SinceOf.further ?_ _) | (with_reducible refine SinceOf.setCell ?_ (by first | exact Nat.le_refl _ | (simp; done) | omega | (simp; omega)) _))))) HS.out.1).calls.mono ?_
                  rintro e _ ⟨rfl, x5, rfl⟩
                  go_wp2_with fail
                  go_roundg (M - (m + 1))
                  case measure => omega
                  case rel => exact ⟨m + 1, k2, _, cnt2, x + 1, rfl, rfl, rfl, by go_num, by have := HX.out; omega, hlt2, Nat.le_refl _, hk2, fun j h1 h2 => by have := HN.out.1 j h1 h2; omega, HI.out.1.skip HR.out.1.1 HM.out.1, by (repeat (first | (with_reducible exact SinceOf.refl _) | (with_reducible assumption) | (with_reducible refine SinceOf.alloc ?_ _) | (with_reducible refine SinceOf.drew ?_) | (with_reducible refine SinceOf.drewN ?_ _) | (with_reducible refine SinceOf.later ?_ _) | (with_reducible refine SinceOf.further ?_ _) | (with_reducible refine SinceOf.setCell ?_ (by first | exact Nat.le_refl _ | (simp; done) | omega | (simp; omega)) _)))⟩
        · have hmM : m = M := by omega
          subst hmM
          have hNM := HNM.out.2
          have g2 : decide (x ≤ hx) = false := decide_eq_false (by omega)
          have HX := Lib.hid (HI.out.1.fin HO.out (by rw [← HY.out]; exact HR.out.1) hlt (by omega))
          clear hNM hxm
          go_wp2_with fail
          go_loopg [16] l.length (fun gas s16 wr => ∃ i : Nat, s16 = .int .i64 ((i + 1 : Nat) : Int) ∧ i ≤ l.length ∧ l.length - i ≤ gas ∧ SinceOf y2.wd wr)
          case atStart => exact ⟨0, rfl, Nat.zero_le _, by omega, by (repeat (first | (with_reducible exact SinceOf.refl _) | (with_reducible assumption) | (with_reducible refine SinceOf.alloc ?_ _) | (with_reducible refine SinceOf.drew ?_) | (with_reducible refine SinceOf.drewN ?_ _) | (with_reducible refine SinceOf.later ?_ _) | (with_reducible refine SinceOf.further ?_ _) | (with_reducible refine SinceOf.setCell ?_ (by first | exact Nat.le_refl _ | (simp; done) | omega | (simp; omega)) _)))⟩
          case round =>
            obtain ⟨i, rfl, hi, hgas3, ⟨v2, rfl⟩⟩ := hrel
            by_cases hlt3 : i + 1 < l.length
            · obtain ⟨g, off, hA, hr⟩ := (HR.out.2.1.of (w' := v2.wd) (by (repeat (first | (with_reducible exact SinceOf.refl _) | (with_reducible assumption) | (with_reducible refine SinceOf.alloc ?_ _) | (with_reducible refine SinceOf.drew ?_) | (with_reducible refine SinceOf.drewN ?_ _) | (with_reducible refine SinceOf.later ?_ _) | (with_reducible refine SinceOf.further ?_ _) | (with_reducible refine SinceOf.setCell ?_ (by first | exact Nat.le_refl _ | (simp; done) | omega | (simp; omega)) _))))).at_ (by omega)
              subst hA
              have hOg := hr.there
              have a0 := hr.v0 (i + 1) hlt3
              have a1 := hr.v1 i (by omega)
              have hlt4 := canonI_lt HR.out.1.1 (show i < i + 1 by omega) hlt3
              have hpb := HR.out.1.bnd _ (List.getElem_mem (show i < l.length by omega))
              clear hr
              generalize l[i + 1] = p at a0 hlt4
              generalize l[i] = q at a1 hlt4 hpb
              obtain ⟨px, py⟩ := p
              obtain ⟨qx, qy⟩ := q
              simp only at a0 a1 hlt4 hpb
              have g4 : decide (px ≤ qy + 1) = false := decide_eq_false (by omega)
              have g5 : IntKind.i64.wrap (qy + 1) = qy + 1 := IntWalk.i64_in _ (by omega)
              have g6 : IntKind.i64.wrap (((i + 1 : Nat) : Int) - 1) = (i : Int) := by rw [show ((i + 1 : Nat) : Int) - 1 = (i : Int) by omega]; exact IntWalk.i64_in _ (by omega)
              go_wp2_with fail
              go_region
              go_wp2_with fail
              go_roundg (l.length - (i + 1))
              case measure => omega
              case rel => exact ⟨i + 1, by go_num, by omega, Nat.le_refl _, by (repeat (first | (with_reducible exact SinceOf.refl _) | (with_reducible assumption) | (with_reducible refine SinceOf.alloc ?_ _) | (with_reducible refine SinceOf.drew ?_) | (with_reducible refine SinceOf.drewN ?_ _) | (with_reducible refine SinceOf.later ?_ _) | (with_reducible refine SinceOf.further ?_ _) | (with_reducible refine SinceOf.setCell ?_ (by first | exact Nat.le_refl _ | (simp; done) | omega | (simp; omega)) _)))⟩
            · clear hcb2
              go_wp2_with fail
              go_roundg (N - (n + 1))
              case measure => omega
              case rel => exact ⟨n + 1, fd2, cnt2, y + 1, rfl, rfl, by go_num, by have := HY.out; omega, hlt, Nat.le_refl _, HX.out, by (repeat (first | (with_reducible exact SinceOf.refl _) | (with_reducible assumption) | (with_reducible refine SinceOf.alloc ?_ _) | (with_reducible refine SinceOf.drew ?_) | (with_reducible refine SinceOf.drewN ?_ _) | (with_reducible refine SinceOf.later ?_ _) | (with_reducible refine SinceOf.further ?_ _) | (with_reducible refine SinceOf.setCell ?_ (by first | exact Nat.le_refl _ | (simp; done) | omega | (simp; omega)) _)))⟩
    · have hnN : n = N := by omega
      subst hnN
      have hNM := HNM.out.1
      have g1 : decide (y ≤ hy) = false := decide_eq_false (by omega)
      have hfin := HO.out.fin
      simp only at hfin
      obtain ⟨hok, hcnt⟩ := hfin
      subst hok
      have HC := Lib.hid (And.intro hcnt (And.intro hyn hwz))
      clear hcnt hyn hNM hwz
      go_wp2_with fail
      refine (count_any A c X lx ly hx hy _ (H.out.of (by (repeat (first | (with_reducible exact SinceOf.refl _) | (with_reducible assumption) | (with_reducible refine SinceOf.alloc ?_ _) | (with_reducible refine SinceOf.drew ?_) | (with_reducible refine SinceOf.drewN ?_ _) | (with_reducible refine SinceOf.later ?_ _) | (with_reducible refine SinceOf.further ?_ _) | (with_reducible refine SinceOf.setCell ?_ (by first | exact Nat.le_refl _ | (simp; done) | omega | (simp; omega)) _))))) HS.out.1 HS.out.2).mono ?_
      rintro e _ ⟨n1, rfl, hr1, ⟨z3, rfl⟩⟩
      rw [HF.out.2] at hr1
      obtain rfl := HC.out.1.unique hr1
      clear hr1
      go_wp2_with fail
      go_returns
      exact ⟨by simp, by (repeat (first | (with_reducible exact SinceOf.refl _) | (with_reducible assumption) | (with_reducible refine SinceOf.alloc ?_ _) | (with_reducible refine SinceOf.drew ?_) | (with_reducible refine SinceOf.drewN ?_ _) | (with_reducible refine SinceOf.later ?_ _) | (with_reducible refine SinceOf.further ?_ _) | (with_reducible refine SinceOf.setCell ?_ (by first | exact Nat.le_refl _ | (simp; done) | omega | (simp; omega)) _)))⟩
end Go.Proofs.Ytbienlhofkfdpaa
