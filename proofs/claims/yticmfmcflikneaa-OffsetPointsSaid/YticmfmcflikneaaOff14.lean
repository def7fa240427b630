/- Layer 18: the walk of OffsetPoints. -/
import Derived.Test.YticmfmcflikneaaOff12
namespace Go.Proofs.Yticmfmcflikneaa
open Go.RowKit Go.Sort
set_option linter.unusedVariables false
set_option linter.unusedSimpArgs false
attribute [local go_sem ↓] Go.wp_at_zero Go.wp_at_succ

theorem points_sq {p q : Pt} (hp : near 2000 p) (hq : near 2000 q) : dotI (wsub p.1 q.1) (wsub p.2 q.2) (wsub p.1 q.1) (wsub p.2 q.2) = (p.1 - q.1) * (p.1 - q.1) + (p.2 - q.2) * (p.2 - q.2) := by
  unfold near at hp hq
  rw [wsub_in (by omega), wsub_in (by omega)]
  exact dot_exact (by omega) (by omega) (by omega) (by omega)
set_option maxRecDepth 100000 in
set_option maxHeartbeats 16000000 in
theorem offsetPoints_any (A B : Option Addr) (c d : Nat) (X Z : List RgR) (t : Int) (w : World) (h : IsRings w A c X) (hz : IsRings w B d Z) (ht : 0 ≤ t ∧ t ≤ 255) : Yields Try.prog 19 #[.slice A X.length c, .slice B Z.length d, .int .u8 t] w (.bool true) := by
  apply Yields.ret
  have H := Lib.hid (And.intro h hz)
  clear h hz
  have M1 := fun W (hW : SinceOf w W) => modest_any A c X W (H.out.1.of hW)
  have M2 := fun W (hW : SinceOf w W) => modest_any B d Z W (H.out.2.of hW)
  have ht0 := ht.1
  have ht1 := ht.2
  clear ht
  cases hm : modB (vxs X)
  · rw [hm] at M1
    clear M2 hm
    go_enter Try.func19, Try.ntmps19
    go_wp2_with fail
    refine (awake18_any _).calls.mono ?_
    rintro e _ ⟨rfl, x1, rfl⟩
    go_wp2_with fail
    refine (M1 _ (by (repeat (first | (with_reducible exact SinceOf.refl _) | (with_reducible assumption) | (with_reducible refine SinceOf.alloc ?_ _) | (with_reducible refine SinceOf.drew ?_) | (with_reducible refine SinceOf.drewN ?_ _) | (with_reducible refine SinceOf.later ?_ _) | (with_reducible refine SinceOf.further ?_ _) | (with_reducible refine SinceOf.setCell ?_ (by first | exact Nat.le_refl _ | (simp; done) | omega | (simp; omega)) _))))).calls.mono ?_
    rintro e _ ⟨rfl, x2, rfl⟩
    go_wp2_with fail
    go_returns
    exact ⟨rfl, by (repeat (first | (with_reducible exact SinceOf.refl _) | (with_reducible assumption) | (with_reducible refine SinceOf.alloc ?_ _) | (with_reducible refine SinceOf.drew ?_) | (with_reducible refine SinceOf.drewN ?_ _) | (with_reducible refine SinceOf.later ?_ _) | (with_reducible refine SinceOf.further ?_ _) | (with_reducible refine SinceOf.setCell ?_ (by first | exact Nat.le_refl _ | (simp; done) | omega | (simp; omega)) _)))⟩
  cases hm2 : modB (vxs Z)
  · rw [hm] at M1
    rw [hm2] at M2
    clear hm hm2
    go_enter Try.func19, Try.ntmps19
    go_wp2_with fail
    refine (awake18_any _).calls.mono ?_
    rintro e _ ⟨rfl, x1, rfl⟩
    go_wp2_with fail
    refine (M1 _ (by (repeat (first | (with_reducible exact SinceOf.refl _) | (with_reducible assumption) | (with_reducible refine SinceOf.alloc ?_ _) | (with_reducible refine SinceOf.drew ?_) | (with_reducible refine SinceOf.drewN ?_ _) | (with_reducible refine SinceOf.later ?_ _) | (with_reducible refine SinceOf.further ?_ _) | (with_reducible refine SinceOf.setCell ?_ (by first | exact Nat.le_refl _ | (simp; done) | omega | (simp; omega)) _))))).calls.mono ?_
    rintro e _ ⟨rfl, x2, rfl⟩
    go_wp2_with fail
    refine (M2 _ (by (repeat (first | (with_reducible exact SinceOf.refl _) | (with_reducible assumption) | (with_reducible refine SinceOf.alloc ?_ _) | (with_reducible refine SinceOf.drew ?_) | (with_reducible refine SinceOf.drewN ?_ _) | (with_reducible refine SinceOf.later ?_ _) | (with_reducible refine SinceOf.further ?_ _) | (with_reducible refine SinceOf.setCell ?_ (by first | exact Nat.le_refl _ | (simp; done) | omega | (simp; omega)) _))))).calls.mono ?_
    rintro e _ ⟨rfl, x3, rfl⟩
    go_wp2_with fail
    go_returns
    exact ⟨rfl, by (repeat (first | (with_reducible exact SinceOf.refl _) | (with_reducible assumption) | (with_reducible refine SinceOf.alloc ?_ _) | (with_reducible refine SinceOf.drew ?_) | (with_reducible refine SinceOf.drewN ?_ _) | (with_reducible refine SinceOf.later ?_ _) | (with_reducible refine SinceOf.further ?_ _) | (with_reducible refine SinceOf.setCell ?_ (by first | exact Nat.le_refl _ | (simp; done) | omega | (simp; omega)) _)))⟩
  obtain ⟨tX, nX⟩ := modB_tame hm
  obtain ⟨tZ, nZ⟩ := modB_tame hm2
  rw [hm] at M1
  rw [hm2] at M2
  have HT := Lib.hid (And.intro tX (And.intro tZ (And.intro nX nZ)))
  have hXl := tX.1
  have hZl := tZ.1
  rw [vxs_len] at hXl hZl
  clear hm hm2 tX tZ nX nZ
  obtain ⟨m, hmd⟩ : ∃ m, m = t % 201 := ⟨_, rfl⟩
  have hm0 : 0 ≤ m := by omega
  have hm2 : m ≤ 200 := by omega
  have A1 := fun W (hW : SinceOf w W) => apart_any A B c d X Z m W (H.out.1.of hW) (H.out.2.of hW) (by omega)
  have hap := tame_apart hm0 hm2 HT.out.1 HT.out.2.1
  rw [hap.1] at A1
  have e1 : t % 201 = m := hmd.symm
  clear hmd
  cases ha : (apartV (vxs X) (vxs Z) m).1
  · rw [ha] at A1
    clear hap ha
    go_enter Try.func19, Try.ntmps19
    go_wp2_with fail
    refine (awake18_any _).calls.mono ?_
    rintro e _ ⟨rfl, x1, rfl⟩
    go_wp2_with fail
    refine (M1 _ (by (repeat (first | (with_reducible exact SinceOf.refl _) | (with_reducible assumption) | (with_reducible refine SinceOf.alloc ?_ _) | (with_reducible refine SinceOf.drew ?_) | (with_reducible refine SinceOf.drewN ?_ _) | (with_reducible refine SinceOf.later ?_ _) | (with_reducible refine SinceOf.further ?_ _) | (with_reducible refine SinceOf.setCell ?_ (by first | exact Nat.le_refl _ | (simp; done) | omega | (simp; omega)) _))))).calls.mono ?_
    rintro e _ ⟨rfl, x2, rfl⟩
    go_wp2_with fail
    refine (M2 _ (by (repeat (first | (with_reducible exact SinceOf.refl _) | (with_reducible assumption) | (with_reducible refine SinceOf.alloc ?_ _) | (with_reducible refine SinceOf.drew ?_) | (with_reducible refine SinceOf.drewN ?_ _) | (with_reducible refine SinceOf.later ?_ _) | (with_reducible refine SinceOf.further ?_ _) | (with_reducible refine SinceOf.setCell ?_ (by first | exact Nat.le_refl _ | (simp; done) | omega | (simp; omega)) _))))).calls.mono ?_
    rintro e _ ⟨rfl, x3, rfl⟩
    clear M1 M2
    go_wp2_with fail
    refine (A1 _ (by (repeat (first | (with_reducible exact SinceOf.refl _) | (with_reducible assumption) | (with_reducible refine SinceOf.alloc ?_ _) | (with_reducible refine SinceOf.drew ?_) | (with_reducible refine SinceOf.drewN ?_ _) | (with_reducible refine SinceOf.later ?_ _) | (with_reducible refine SinceOf.further ?_ _) | (with_reducible refine SinceOf.setCell ?_ (by first | exact Nat.le_refl _ | (simp; done) | omega | (simp; omega)) _))))).mono ?_
    rintro e _ ⟨rfl, ⟨x4, rfl⟩⟩
    go_wp2_with fail
    go_returns
    exact ⟨rfl, by (repeat (first | (with_reducible exact SinceOf.refl _) | (with_reducible assumption) | (with_reducible refine SinceOf.alloc ?_ _) | (with_reducible refine SinceOf.drew ?_) | (with_reducible refine SinceOf.drewN ?_ _) | (with_reducible refine SinceOf.later ?_ _) | (with_reducible refine SinceOf.further ?_ _) | (with_reducible refine SinceOf.setCell ?_ (by first | exact Nat.le_refl _ | (simp; done) | omega | (simp; omega)) _)))⟩
  rw [ha] at A1
  have HCl := Lib.hid (hap.2.1 ha)
  clear hap ha
  go_enter Try.func19, Try.ntmps19
  go_wp2_with fail
  refine (awake18_any _).calls.mono ?_
  rintro e _ ⟨rfl, x1, rfl⟩
  go_wp2_with fail
  refine (M1 _ (by (repeat (first | (with_reducible exact SinceOf.refl _) | (with_reducible assumption) | (with_reducible refine SinceOf.alloc ?_ _) | (with_reducible refine SinceOf.drew ?_) | (with_reducible refine SinceOf.drewN ?_ _) | (with_reducible refine SinceOf.later ?_ _) | (with_reducible refine SinceOf.further ?_ _) | (with_reducible refine SinceOf.setCell ?_ (by first | exact Nat.le_refl _ | (simp; done) | omega | (simp; omega)) _))))).calls.mono ?_
  rintro e _ ⟨rfl, x2, rfl⟩
  go_wp2_with fail
  refine (M2 _ (by (repeat (first | (with_reducible exact SinceOf.refl _) | (with_reducible assumption) | (with_reducible refine SinceOf.alloc ?_ _) | (with_reducible refine SinceOf.drew ?_) | (with_reducible refine SinceOf.drewN ?_ _) | (with_reducible refine SinceOf.later ?_ _) | (with_reducible refine SinceOf.further ?_ _) | (with_reducible refine SinceOf.setCell ?_ (by first | exact Nat.le_refl _ | (simp; done) | omega | (simp; omega)) _))))).calls.mono ?_
  rintro e _ ⟨rfl, x3, rfl⟩
  clear M1 M2
  go_wp2_with fail
  refine (A1 _ (by (repeat (first | (with_reducible exact SinceOf.refl _) | (with_reducible assumption) | (with_reducible refine SinceOf.alloc ?_ _) | (with_reducible refine SinceOf.drew ?_) | (with_reducible refine SinceOf.drewN ?_ _) | (with_reducible refine SinceOf.later ?_ _) | (with_reducible refine SinceOf.further ?_ _) | (with_reducible refine SinceOf.setCell ?_ (by first | exact Nat.le_refl _ | (simp; done) | omega | (simp; omega)) _))))).mono ?_
  rintro e _ ⟨rfl, ⟨x4, rfl⟩⟩
  rw [e1]
  clear A1 e1
  have hmm : 0 ≤ m * m ∧ m * m ≤ 40000 := by
    have := Int.mul_le_mul hm2 hm2 hm0 (by omega)
    exact ⟨Int.mul_nonneg hm0 hm0, by omega⟩
  have hmm0 := hmm.1
  have hmm1 := hmm.2
  clear hmm
  go_wp2_with fail
  go_loopg [10] X.length (fun gas s10 wr => ∃ i : Nat, i ≤ X.length ∧ X.length - i ≤ gas ∧ s10 = .int .i64 i ∧ SinceOf w wr)
  case atStart => exact ⟨0, by omega, by omega, rfl, by (repeat (first | (with_reducible exact SinceOf.refl _) | (with_reducible assumption) | (with_reducible refine SinceOf.alloc ?_ _) | (with_reducible refine SinceOf.drew ?_) | (with_reducible refine SinceOf.drewN ?_ _) | (with_reducible refine SinceOf.later ?_ _) | (with_reducible refine SinceOf.further ?_ _) | (with_reducible refine SinceOf.setCell ?_ (by first | exact Nat.le_refl _ | (simp; done) | omega | (simp; omega)) _)))⟩
  case round =>
    obtain ⟨i, hi, hgas, rfl, ⟨z, rfl⟩⟩ := hrel
    by_cases hlt : i < X.length
    · go_wp2_with fail
      go_loopg [11] Z.length (fun gas s11 wr => ∃ j : Nat, j ≤ Z.length ∧ Z.length - j ≤ gas ∧ s11 = .int .i64 j ∧ SinceOf w wr)
      case atStart => exact ⟨0, by omega, by omega, rfl, by (repeat (first | (with_reducible exact SinceOf.refl _) | (with_reducible assumption) | (with_reducible refine SinceOf.alloc ?_ _) | (with_reducible refine SinceOf.drew ?_) | (with_reducible refine SinceOf.drewN ?_ _) | (with_reducible refine SinceOf.later ?_ _) | (with_reducible refine SinceOf.further ?_ _) | (with_reducible refine SinceOf.setCell ?_ (by first | exact Nat.le_refl _ | (simp; done) | omega | (simp; omega)) _)))⟩
      case round =>
        obtain ⟨j, hj, hgas2, rfl, ⟨y, rfl⟩⟩ := hrel
        by_cases hlt2 : j < Z.length
        · obtain ⟨x, hx⟩ : ∃ x, x = X[i] := ⟨_, rfl⟩
          obtain ⟨s, hs⟩ : ∃ s, s = Z[j] := ⟨_, rfl⟩
          have mx : x.xs ∈ vxs X := List.mem_map.2 ⟨X[i], List.getElem_mem hlt, by rw [hx]⟩
          have ms : s.xs ∈ vxs Z := List.mem_map.2 ⟨Z[j], List.getElem_mem hlt2, by rw [hs]⟩
          have hcl := HCl.out _ mx _ ms
          have cx := HT.out.1.conv _ mx
          have cs := HT.out.2.1.conv _ ms
          have lx := (HT.out.1.2 _ mx).2.1
          have ls := (HT.out.2.1.2 _ ms).2.1
          have nx := HT.out.2.2.1 _ mx
          have ns := HT.out.2.2.2 _ ms
          have HX := Lib.hid (And.intro hx hs)
          have HS := Lib.hid (And.intro hcl (And.intro cx (And.intro cs (And.intro nx ns))))
          clear hx hs mx ms hcl cx cs nx ns
          go_wp2_with fail
          go_loopg [12] x.xs.length (fun gas s12 wr => ∃ p : Nat, p ≤ x.xs.length ∧ x.xs.length - p ≤ gas ∧ s12 = .int .i64 p ∧ SinceOf w wr)
          case atStart => exact ⟨0, by omega, by omega, rfl, by (repeat (first | (with_reducible exact SinceOf.refl _) | (with_reducible assumption) | (with_reducible refine SinceOf.alloc ?_ _) | (with_reducible refine SinceOf.drew ?_) | (with_reducible refine SinceOf.drewN ?_ _) | (with_reducible refine SinceOf.later ?_ _) | (with_reducible refine SinceOf.further ?_ _) | (with_reducible refine SinceOf.setCell ?_ (by first | exact Nat.le_refl _ | (simp; done) | omega | (simp; omega)) _)))⟩
          case round =>
            obtain ⟨p, hp, hgas3, rfl, ⟨u, rfl⟩⟩ := hrel
            have hX1 := H.out.1.of (w' := u.wd) (by (repeat (first | (with_reducible exact SinceOf.refl _) | (with_reducible assumption) | (with_reducible refine SinceOf.alloc ?_ _) | (with_reducible refine SinceOf.drew ?_) | (with_reducible refine SinceOf.drewN ?_ _) | (with_reducible refine SinceOf.later ?_ _) | (with_reducible refine SinceOf.further ?_ _) | (with_reducible refine SinceOf.setCell ?_ (by first | exact Nat.le_refl _ | (simp; done) | omega | (simp; omega)) _))))
            have vx := hX1.all _ (List.getElem_mem hlt)
            obtain ⟨g, off, rfl, hr⟩ := hX1.row.at_ (by omega)
            have hO := hr.there
            have k0 := hr.g0 i hlt
            have hZ1 := H.out.2.of (w' := u.wd) (by (repeat (first | (with_reducible exact SinceOf.refl _) | (with_reducible assumption) | (with_reducible refine SinceOf.alloc ?_ _) | (with_reducible refine SinceOf.drew ?_) | (with_reducible refine SinceOf.drewN ?_ _) | (with_reducible refine SinceOf.later ?_ _) | (with_reducible refine SinceOf.further ?_ _) | (with_reducible refine SinceOf.setCell ?_ (by first | exact Nat.le_refl _ | (simp; done) | omega | (simp; omega)) _))))
            have vs := hZ1.all _ (List.getElem_mem hlt2)
            obtain ⟨g2, off2, rfl, hr2⟩ := hZ1.row.at_ (by omega)
            have hO2 := hr2.there
            have k2 := hr2.g0 j hlt2
            rw [← HX.out.1] at k0 vx
            rw [← HX.out.2] at k2 vs
            clear hX1 hr hZ1 hr2
            by_cases hlt3 : p < x.xs.length
            · obtain ⟨g3, off3, hA3, hr3⟩ := vx.1.at_ (by omega)
              have hO3 := hr3.there
              have p0 := hr3.v0 p hlt3
              have p1 := hr3.v1 p hlt3
              have W1 := fun W (hW : SinceOf u.wd W) => where_any s.A s.c s.xs x.xs[p].1 x.xs[p].2 W (vs.1.of hW) vs.2
              have hmp : x.xs[p] ∈ x.xs := List.getElem_mem hlt3
              have hwn : whereV s.xs (x.xs[p].1, x.xs[p].2) ≠ 2 := clear_out hm0 HS.out.2.2.1 HS.out.1 hmp
              have g1 : (whereV s.xs (x.xs[p].1, x.xs[p].2) == 2) = false := by simpa using hwn
              have hnp := HS.out.2.2.2.1 _ hmp
              generalize whereV s.xs (x.xs[p].1, x.xs[p].2) = wv at *
              have HP := Lib.hid (And.intro hmp hnp)
              have HVX := Lib.hid vx.1
              have HVS := Lib.hid vs.1
              have hxl := vx.2
              have hsl := vs.2
              clear hwn hr3 hmp hnp vx vs
              rw [hA3] at k0
              have HA3 := Lib.hid hA3
              clear hA3
              go_wp2_with fail
              refine region_later (by kernel_rfl) (by kernel_rfl) ?_
              repeat (go_big_quiet_step ((with_reducible refine Gives.later (W1 _ (by (repeat (first | (with_reducible exact SinceOf.refl _) | (with_reducible assumption) | (with_reducible refine SinceOf.alloc ?_ _) | (with_reducible refine SinceOf.drew ?_) | (with_reducible refine SinceOf.drewN ?_ _) | (with_reducible refine SinceOf.later ?_ _) | (with_reducible refine SinceOf.further ?_ _) | (with_reducible refine SinceOf.setCell ?_ (by first | exact Nat.le_refl _ | (simp; done) | omega | (simp; omega)) _))))))))
              refine wpQuiet_nil ?_
              rintro _ ⟨z4, rfl⟩
              clear W1 g1
              clear k0 k2 p0 p1
              go_wp2_with fail
              go_loopg [13] s.xs.length (fun gas s13 wr => ∃ q : Nat, q ≤ s.xs.length ∧ s.xs.length - q ≤ gas ∧ s13 = .int .i64 q ∧ SinceOf u.wd wr)
              case atStart => exact ⟨0, by omega, by omega, rfl, by (repeat (first | (with_reducible exact SinceOf.refl _) | (with_reducible assumption) | (with_reducible refine SinceOf.alloc ?_ _) | (with_reducible refine SinceOf.drew ?_) | (with_reducible refine SinceOf.drewN ?_ _) | (with_reducible refine SinceOf.later ?_ _) | (with_reducible refine SinceOf.further ?_ _) | (with_reducible refine SinceOf.setCell ?_ (by first | exact Nat.le_refl _ | (simp; done) | omega | (simp; omega)) _)))⟩
              case round =>
                obtain ⟨q, hq, hgas4, rfl, ⟨v, rfl⟩⟩ := hrel
                have hX1 := H.out.1.of (w' := v.wd) (by (repeat (first | (with_reducible exact SinceOf.refl _) | (with_reducible assumption) | (with_reducible refine SinceOf.alloc ?_ _) | (with_reducible refine SinceOf.drew ?_) | (with_reducible refine SinceOf.drewN ?_ _) | (with_reducible refine SinceOf.later ?_ _) | (with_reducible refine SinceOf.further ?_ _) | (with_reducible refine SinceOf.setCell ?_ (by first | exact Nat.le_refl _ | (simp; done) | omega | (simp; omega)) _))))
                obtain ⟨g', off', he, hr⟩ := hX1.row.at_ (by omega)
                injection he with he
                injection he with hg1 ho1
                subst hg1 ho1
                have hO' := hr.there
                have k0 := hr.g0 i hlt
                have hZ1 := H.out.2.of (w' := v.wd) (by (repeat (first | (with_reducible exact SinceOf.refl _) | (with_reducible assumption) | (with_reducible refine SinceOf.alloc ?_ _) | (with_reducible refine SinceOf.drew ?_) | (with_reducible refine SinceOf.drewN ?_ _) | (with_reducible refine SinceOf.later ?_ _) | (with_reducible refine SinceOf.further ?_ _) | (with_reducible refine SinceOf.setCell ?_ (by first | exact Nat.le_refl _ | (simp; done) | omega | (simp; omega)) _))))
                obtain ⟨g', off', he, hr2⟩ := hZ1.row.at_ (by omega)
                injection he with he
                injection he with hg1 ho1
                subst hg1 ho1
                have hO2' := hr2.there
                have k2 := hr2.g0 j hlt2
                rw [← HX.out.1, HA3.out] at k0
                rw [← HX.out.2] at k2
                clear hX1 hr hZ1 hr2
                by_cases hlt4 : q < s.xs.length
                · have vx := HVX.out.of (w' := v.wd) (by (repeat (first | (with_reducible exact SinceOf.refl _) | (with_reducible assumption) | (with_reducible refine SinceOf.alloc ?_ _) | (with_reducible refine SinceOf.drew ?_) | (with_reducible refine SinceOf.drewN ?_ _) | (with_reducible refine SinceOf.later ?_ _) | (with_reducible refine SinceOf.further ?_ _) | (with_reducible refine SinceOf.setCell ?_ (by first | exact Nat.le_refl _ | (simp; done) | omega | (simp; omega)) _))))
                  have vs := HVS.out.of (w' := v.wd) (by (repeat (first | (with_reducible exact SinceOf.refl _) | (with_reducible assumption) | (with_reducible refine SinceOf.alloc ?_ _) | (with_reducible refine SinceOf.drew ?_) | (with_reducible refine SinceOf.drewN ?_ _) | (with_reducible refine SinceOf.later ?_ _) | (with_reducible refine SinceOf.further ?_ _) | (with_reducible refine SinceOf.setCell ?_ (by first | exact Nat.le_refl _ | (simp; done) | omega | (simp; omega)) _))))
                  rw [HA3.out] at vx
                  obtain ⟨g', off', he, hr3⟩ := vx.at_ (by omega)
                  injection he with he
                  injection he with hg1 ho1
                  subst hg1 ho1
                  have hO3' := hr3.there
                  have p0 := hr3.v0 p hlt3
                  have p1 := hr3.v1 p hlt3
                  obtain ⟨g4, off4, hA4, hr4⟩ := vs.at_ (by omega)
                  have hO4 := hr4.there
                  have q0 := hr4.v0 q hlt4
                  have q1 := hr4.v1 q hlt4
                  rw [hA4] at k2
                  have W2 := fun W (hW : SinceOf v.wd W) => where_any (some ⟨g3, off3, none⟩) x.c x.xs s.xs[q].1 s.xs[q].2 W (vx.of hW) hxl
                  have hmq : s.xs[q] ∈ s.xs := List.getElem_mem hlt4
                  have hwn : whereV x.xs (s.xs[q].1, s.xs[q].2) ≠ 2 := clear_out hm0 HS.out.2.1 HS.out.1.symm hmq
                  have g1 : (whereV x.xs (s.xs[q].1, s.xs[q].2) == 2) = false := by simpa using hwn
                  have hds := clear_dist hm0 HS.out.1 HP.out.1 hmq
                  have hpd := points_sq HP.out.2 (HS.out.2.2.2.2 _ hmq)
                  rw [← hpd] at hds
                  have S1 := refSub_any x.xs[p].1 x.xs[p].2 s.xs[q].1 s.xs[q].2
                  have DD := refDot_any (wsub x.xs[p].1 s.xs[q].1) (wsub x.xs[p].2 s.xs[q].2) (wsub x.xs[p].1 s.xs[q].1) (wsub x.xs[p].2 s.xs[q].2)
                  clear hpd hwn hmq hr3 hr4 vx vs
                  have HA4 := Lib.hid hA4
                  clear hA4
                  generalize whereV x.xs (s.xs[q].1, s.xs[q].2) = wv at *
                  generalize dotI (wsub x.xs[p].1 s.xs[q].1) (wsub x.xs[p].2 s.xs[q].2) (wsub x.xs[p].1 s.xs[q].1) (wsub x.xs[p].2 s.xs[q].2) = dv at *
                  generalize wsub x.xs[p].1 s.xs[q].1 = ex at *
                  generalize wsub x.xs[p].2 s.xs[q].2 = ey at *
                  generalize x.xs[p].1 = px at *
                  generalize x.xs[p].2 = py at *
                  generalize s.xs[q].1 = qx at *
                  generalize s.xs[q].2 = qy at *
                  go_wp2_with fail
                  go_cut [14] (fun s14 wx => ∃ b7 : Nat, s14 = .pointer (some ⟨b7, 0, none⟩) ∧ wx.cell? ⟨b7, 0, none⟩ = some (.int .i64 ex) ∧ wx.cell? ⟨b7, 1, none⟩ = some (.int .i64 ey) ∧ b7 < wx.heap.size ∧ SinceOf v.wd wx)
                  case first =>
                    go_region_held3 (fun w' => w'.cell? ⟨g, off + i, none⟩ = some (.slice (some ⟨g3, off3, none⟩) x.xs.length x.c) ∧ w'.cell? ⟨g2, off2 + j, none⟩ = some (.slice (some ⟨g4, off4, none⟩) s.xs.length s.c) ∧ w'.cell? ⟨g3, off3 + p * 2, none⟩ = some (.int .i64 px) ∧ w'.cell? ⟨g3, off3 + p * 2 + 1, none⟩ = some (.int .i64 py) ∧ w'.cell? ⟨g4, off4 + q * 2, none⟩ = some (.int .i64 qx) ∧ w'.cell? ⟨g4, off4 + q * 2 + 1, none⟩ = some (.int .i64 qy)) ((simp [go_sem, *]))
                      ((go_at_call 32; refine (S1 _).calls.mono ?_; rintro e _ ⟨rfl, y1, rfl⟩))
                    all_goals
                      go_wp2_with fail
                      go_meet
                      have e1 := y1.size
                      (try simp only [World.size_alloc, World.size_setCell, World.size_drew] at e1)
                      refine ⟨_, rfl, ?_, ?_, ?_, by (repeat (first | (with_reducible exact SinceOf.refl _) | (with_reducible assumption) | (with_reducible refine SinceOf.alloc ?_ _) | (with_reducible refine SinceOf.drew ?_) | (with_reducible refine SinceOf.drewN ?_ _) | (with_reducible refine SinceOf.later ?_ _) | (with_reducible refine SinceOf.further ?_ _) | (with_reducible refine SinceOf.setCell ?_ (by first | exact Nat.le_refl _ | (simp; done) | omega | (simp; omega)) _)))⟩
                      · simp [go_sem, *]
                      · simp [go_sem, *]
                      · simp only [World.size_alloc, World.size_setCell, World.size_drew]; omega
                  case rest =>
                    obtain ⟨b7, rfl, e0, e1, hb7, ⟨z7, rfl⟩⟩ := hcut
                    have hO7 : Nonempty (Old z7.wd b7) := ⟨⟨hb7⟩⟩
                    clear S1
                    have hw5 : IntKind.i64.wrap (m * m) = m * m := IntWalk.i64_in _ (by omega)
                    have hdd : decide (dv < m * m) = false := decide_eq_false (by omega)
                    have k0' : z7.wd.cell? ⟨g, off + i, none⟩ = some (.slice (some ⟨g3, off3, none⟩) x.xs.length x.c) := by rw [Since.cell]; exact k0
                    have k2' : z7.wd.cell? ⟨g2, off2 + j, none⟩ = some (.slice (some ⟨g4, off4, none⟩) s.xs.length s.c) := by rw [Since.cell]; exact k2
                    have q0' : z7.wd.cell? ⟨g4, off4 + q * 2, none⟩ = some (.int .i64 qx) := by rw [Since.cell]; exact q0
                    have q1' : z7.wd.cell? ⟨g4, off4 + q * 2 + 1, none⟩ = some (.int .i64 qy) := by rw [Since.cell]; exact q1
                    clear hds
                    go_wp2_with fail
                    refine region_later (by kernel_rfl) (by kernel_rfl) ?_
                    repeat (go_big_quiet_step ((first | with_reducible refine Gives.later (W2 _ (by (repeat (first | (with_reducible exact SinceOf.refl _) | (with_reducible assumption) | (with_reducible refine SinceOf.alloc ?_ _) | (with_reducible refine SinceOf.drew ?_) | (with_reducible refine SinceOf.drewN ?_ _) | (with_reducible refine SinceOf.later ?_ _) | (with_reducible refine SinceOf.further ?_ _) | (with_reducible refine SinceOf.setCell ?_ (by first | exact Nat.le_refl _ | (simp; done) | omega | (simp; omega)) _))))) | with_reducible refine Gives.later (DD _))))
                    refine wpQuiet_nil ?_
                    rintro _ ⟨z8, rfl⟩
                    clear hw5
                    go_wp2_with fail
                    go_roundg (s.xs.length - (q + 1))
                    case measure => omega
                    case rel => exact ⟨q + 1, hlt4, Nat.le_refl _, by go_num, by (repeat (first | (with_reducible exact SinceOf.refl _) | (with_reducible assumption) | (with_reducible refine SinceOf.alloc ?_ _) | (with_reducible refine SinceOf.drew ?_) | (with_reducible refine SinceOf.drewN ?_ _) | (with_reducible refine SinceOf.later ?_ _) | (with_reducible refine SinceOf.further ?_ _) | (with_reducible refine SinceOf.setCell ?_ (by first | exact Nat.le_refl _ | (simp; done) | omega | (simp; omega)) _)))⟩
                · obtain rfl : q = s.xs.length := by omega
                  go_wp2_with fail
                  go_roundg (x.xs.length - (p + 1))
                  case measure => omega
                  case rel => exact ⟨p + 1, hlt3, Nat.le_refl _, by go_num, by (repeat (first | (with_reducible exact SinceOf.refl _) | (with_reducible assumption) | (with_reducible refine SinceOf.alloc ?_ _) | (with_reducible refine SinceOf.drew ?_) | (with_reducible refine SinceOf.drewN ?_ _) | (with_reducible refine SinceOf.later ?_ _) | (with_reducible refine SinceOf.further ?_ _) | (with_reducible refine SinceOf.setCell ?_ (by first | exact Nat.le_refl _ | (simp; done) | omega | (simp; omega)) _)))⟩
            · obtain rfl : p = x.xs.length := by omega
              go_wp2_with fail
              go_roundg (Z.length - (j + 1))
              case measure => omega
              case rel => exact ⟨j + 1, hlt2, Nat.le_refl _, by go_num, by (repeat (first | (with_reducible exact SinceOf.refl _) | (with_reducible assumption) | (with_reducible refine SinceOf.alloc ?_ _) | (with_reducible refine SinceOf.drew ?_) | (with_reducible refine SinceOf.drewN ?_ _) | (with_reducible refine SinceOf.later ?_ _) | (with_reducible refine SinceOf.further ?_ _) | (with_reducible refine SinceOf.setCell ?_ (by first | exact Nat.le_refl _ | (simp; done) | omega | (simp; omega)) _)))⟩
        · obtain rfl : j = Z.length := by omega
          go_wp2_with fail
          go_roundg (X.length - (i + 1))
          case measure => omega
          case rel => exact ⟨i + 1, hlt, Nat.le_refl _, by go_num, by (repeat (first | (with_reducible exact SinceOf.refl _) | (with_reducible assumption) | (with_reducible refine SinceOf.alloc ?_ _) | (with_reducible refine SinceOf.drew ?_) | (with_reducible refine SinceOf.drewN ?_ _) | (with_reducible refine SinceOf.later ?_ _) | (with_reducible refine SinceOf.further ?_ _) | (with_reducible refine SinceOf.setCell ?_ (by first | exact Nat.le_refl _ | (simp; done) | omega | (simp; omega)) _)))⟩
    · obtain rfl : i = X.length := by omega
      go_wp2_with fail
      go_returns
      exact ⟨rfl, by (repeat (first | (with_reducible exact SinceOf.refl _) | (with_reducible assumption) | (with_reducible refine SinceOf.alloc ?_ _) | (with_reducible refine SinceOf.drew ?_) | (with_reducible refine SinceOf.drewN ?_ _) | (with_reducible refine SinceOf.later ?_ _) | (with_reducible refine SinceOf.further ?_ _) | (with_reducible refine SinceOf.setCell ?_ (by first | exact Nat.le_refl _ | (simp; done) | omega | (simp; omega)) _)))⟩
end Go.Proofs.Yticmfmcflikneaa
