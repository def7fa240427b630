/- Layer 18: the walk of OffsetDisc. -/
import Derived.Test.YticmfmcflikneaaOff10
import Derived.Test.YticmfmcflikneaaOffP4
namespace Go.Proofs.Yticmfmcflikneaa
open Go.RowKit Go.Sort
set_option linter.unusedVariables false
set_option linter.unusedSimpArgs false
attribute [local go_sem ↓] Go.wp_at_zero Go.wp_at_succ

/-- An edge in the program's own words. -/
theorem disc_words {k : Int} (h1 : 1 ≤ k) (h2 : k ≤ 200) {i : Nat} (hi : i < (octF k).length) : ∃ c dv : Int,
    crossI (at0 (octF k) i).1 (at0 (octF k) i).2 (rv (octF k) (i + 1)).1 (rv (octF k) (i + 1)).2 = c ∧
    dotI (wsub (rv (octF k) (i + 1)).1 (at0 (octF k) i).1) (wsub (rv (octF k) (i + 1)).2 (at0 (octF k) i).2) (wsub (rv (octF k) (i + 1)).1 (at0 (octF k) i).1) (wsub (rv (octF k) (i + 1)).2 (at0 (octF k) i).2) = dv ∧
    0 < c ∧ c ≤ 100000 ∧ 0 ≤ dv ∧ dv ≤ 1000000 ∧ k * k * dv ≤ c * c ∧ withinB (at0 (octF k) i).1 (at0 (octF k) i).2 k = true := by
  obtain ⟨n1, n2, hc, hd⟩ := disc_edge h1 h2 hi
  have hd := hd _ rfl
  generalize at0 (octF k) i = p at *
  generalize rv (octF k) (i + 1) = q at *
  have n1' := n1
  have n2' := n2
  unfold near at n1' n2'
  have e1 := cross_exact (a := p.1) (b := p.2) (c := q.1) (d := q.2) (by omega) (by omega) (by omega) (by omega)
  have m1 := mul_bound p.1 q.2 200 200 (by omega) (by omega) (by omega) (by omega)
  have m2 := mul_bound p.2 q.1 200 200 (by omega) (by omega) (by omega) (by omega)
  have e2 : dotI (wsub q.1 p.1) (wsub q.2 p.2) (wsub q.1 p.1) (wsub q.2 p.2) = (q.1 - p.1) * (q.1 - p.1) + (q.2 - p.2) * (q.2 - p.2) := by
    rw [wsub_in (by omega), wsub_in (by omega)]
    exact dot_exact (by omega) (by omega) (by omega) (by omega)
  have m3 := mul_bound (q.1 - p.1) (q.1 - p.1) 400 400 (by omega) (by omega) (by omega) (by omega)
  have m4 := mul_bound (q.2 - p.2) (q.2 - p.2) 400 400 (by omega) (by omega) (by omega) (by omega)
  have s3 := sq_nonneg (q.1 - p.1)
  have s4 := sq_nonneg (q.2 - p.2)
  exact ⟨_, _, e1, e2, hc, by omega, by omega, by omega, hd, (near_within (by omega)).2 n1⟩
set_option maxRecDepth 100000 in
set_option maxHeartbeats 8000000 in
theorem offsetDisc_any (t : Int) (w : World) (ht : 0 ≤ t ∧ t ≤ 255) : Yields Try.prog 17 #[.int .u8 t] w (.bool true) := by
  apply Yields.ret
  have ht0 := ht.1
  have ht1 := ht.2
  clear ht
  obtain ⟨k, hk⟩ : ∃ k, k = 1 + t % 200 := ⟨_, rfl⟩
  have hk1 : 1 ≤ k := by omega
  have hk2 : k ≤ 200 := by omega
  have ht2 : 0 ≤ t % 200 := by omega
  have ht3 : t % 200 ≤ 199 := by omega
  have HK := Lib.hid hk
  clear hk
  go_enter Try.func17, Try.ntmps17
  go_wp2_with fail
  refine (awake18_any _).calls.mono ?_
  rintro e _ ⟨rfl, x1, rfl⟩
  go_wp2_with fail
  rw [← HK.out]
  clear ht2 ht3
  refine (octagon_any k _).mono ?_
  rintro e _ ⟨A, c, r, err, rfl, hv, hres, ⟨x2, rfl⟩⟩
  obtain ⟨rfl, rfl⟩ := octF_of hk1 hk2 hres
  obtain ⟨hcv, hl8⟩ := octF_conv hk1 hk2
  have C := fun W (hW : SinceOf x2.wd W) => convex_any A c (octF k) W (hv.of hW) (by omega)
  rw [hcv] at C
  have HV := Lib.hid (And.intro hv hcv)
  have h3 : 4 ≤ (octF k).length := octF_four hk1 hk2
  have HD := Lib.hid (fun i (hi : i < (octF k).length) => disc_words hk1 hk2 hi)
  have HLs := Lib.hid (fun (h : k ≠ 1) v (hv : v ∈ octF (k - 1)) => octF_less (j := k - 1) (k := k) (by omega) (by omega) hk2 hv)
  clear hv hcv hres
  have hkk := Int.mul_le_mul hk2 hk2 (by omega) (by omega)
  have hk0 := Int.mul_nonneg (show 0 ≤ k by omega) (show 0 ≤ k by omega)
  go_wp2_with fail
  refine (C _ (by (repeat (first | (with_reducible exact SinceOf.refl _) | (with_reducible assumption) | (with_reducible refine SinceOf.alloc ?_ _) | (with_reducible refine SinceOf.drew ?_) | (with_reducible refine SinceOf.drewN ?_ _) | (with_reducible refine SinceOf.later ?_ _) | (with_reducible refine SinceOf.further ?_ _) | (with_reducible refine SinceOf.setCell ?_ (by first | exact Nat.le_refl _ | (simp; done) | omega | (simp; omega)) _))))).calls.mono ?_
  rintro e _ ⟨rfl, x3, rfl⟩
  clear C
  generalize octF k = o at *
  go_wp2_with fail
  go_loopg [6] o.length (fun gas s6 wr => ∃ i : Nat, i ≤ o.length ∧ o.length - i ≤ gas ∧ s6 = .int .i64 i ∧ SinceOf x2.wd wr)
  case atStart => exact ⟨0, by omega, by omega, rfl, by (repeat (first | (with_reducible exact SinceOf.refl _) | (with_reducible assumption) | (with_reducible refine SinceOf.alloc ?_ _) | (with_reducible refine SinceOf.drew ?_) | (with_reducible refine SinceOf.drewN ?_ _) | (with_reducible refine SinceOf.later ?_ _) | (with_reducible refine SinceOf.further ?_ _) | (with_reducible refine SinceOf.setCell ?_ (by first | exact Nat.le_refl _ | (simp; done) | omega | (simp; omega)) _)))⟩
  case round =>
    obtain ⟨i, hi, hgas, rfl, ⟨z, rfl⟩⟩ := hrel
    by_cases hlt : i < o.length
    · obtain ⟨cr, dv, ec, ed, hc0, hc1, hd0, hd1, hcd, hwi⟩ := HD.out i hlt
      have hq : (i + 1) % o.length < o.length := Nat.mod_lt _ (by omega)
      have hqt : Int.tmod ((i : Int) + 1) (o.length : Int) = (((i + 1) % o.length : Nat) : Int) := by rw [Int.tmod_eq_emod_of_nonneg (by omega), Int.natCast_emod, Int.natCast_add]; rfl
      have hv := HV.out.1.of (w' := z.wd) (by (repeat (first | (with_reducible exact SinceOf.refl _) | (with_reducible assumption) | (with_reducible refine SinceOf.alloc ?_ _) | (with_reducible refine SinceOf.drew ?_) | (with_reducible refine SinceOf.drewN ?_ _) | (with_reducible refine SinceOf.later ?_ _) | (with_reducible refine SinceOf.further ?_ _) | (with_reducible refine SinceOf.setCell ?_ (by first | exact Nat.le_refl _ | (simp; done) | omega | (simp; omega)) _))))
      obtain ⟨g, off, rfl, hr⟩ := hv.at_ (by omega)
      have hO := hr.there
      have a0 := hr.v0 i hlt
      have a1 := hr.v1 i hlt
      have b0 := hr.v0 _ hq
      have b1 := hr.v1 _ hq
      have ea : at0 o i = o[i] := at0_eq hlt
      have eb : rv o (i + 1) = o[(i + 1) % o.length] := at0_eq hq
      rw [ea, eb] at ec ed
      rw [ea] at hwi
      have S1 := refSub_any o[(i + 1) % o.length].1 o[(i + 1) % o.length].2 o[i].1 o[i].2
      have CC := refCross_any o[i].1 o[i].2 o[(i + 1) % o.length].1 o[(i + 1) % o.length].2
      have DD := refDot_any (wsub o[(i + 1) % o.length].1 o[i].1) (wsub o[(i + 1) % o.length].2 o[i].2) (wsub o[(i + 1) % o.length].1 o[i].1) (wsub o[(i + 1) % o.length].2 o[i].2)
      have N := refWithin_any o[i].1 o[i].2 k
      rw [ec] at CC
      rw [ed] at DD
      rw [hwi] at N
      clear ea eb ec ed hwi hr hv
      generalize wsub o[(i + 1) % o.length].1 o[i].1 = ex at *
      generalize wsub o[(i + 1) % o.length].2 o[i].2 = ey at *
      generalize o[(i + 1) % o.length] = pb at *
      generalize (i + 1) % o.length = q at *
      generalize o[i] = pa at *
      obtain ⟨xa, ya⟩ := pa
      obtain ⟨xb, yb⟩ := pb
      simp only at a0 a1 b0 b1 S1 CC DD N
      have hn0 : ¬ (o.length : Int) = 0 := by omega
      have hw1 : IntKind.i64.wrap ((i : Int) + 1) = (i : Int) + 1 := IntWalk.i64_in _ (by omega)
      have hcc := Int.mul_le_mul hc1 hc1 (by omega) (by omega)
      have hcc0 := Int.mul_nonneg (show 0 ≤ cr by omega) (show 0 ≤ cr by omega)
      have hkd := Int.mul_le_mul hkk hd1 hd0 (by omega)
      have hkd0 := Int.mul_nonneg hk0 hd0
      have HN := Lib.hid (And.intro hcc (And.intro hcc0 (And.intro hkd (And.intro hkd0 hcd))))
      clear hcc hcc0 hkd hkd0 hcd
      go_wp2_with fail
      go_cut [7, 8] (fun s7 s8 wx => ∃ b7 b8 : Nat, s7 = .pointer (some ⟨b7, 0, none⟩) ∧ s8 = .pointer (some ⟨b8, 0, none⟩) ∧ VarV wx b7 (xa, ya) ∧ VarV wx b8 (xb, yb) ∧ SinceOf z.wd wx)
      case first =>
        go_big_region
        all_goals
          go_wp2_with fail
          go_meet
          exact ⟨_, _, rfl, rfl, ⟨by simp [go_sem], by simp [go_sem], by simp [go_sem], by simp [go_sem], by simp [go_sem]⟩, ⟨by simp [go_sem], by simp [go_sem], by simp [go_sem], by simp [go_sem], by simp [go_sem]⟩, by (repeat (first | (with_reducible exact SinceOf.refl _) | (with_reducible assumption) | (with_reducible refine SinceOf.alloc ?_ _) | (with_reducible refine SinceOf.drew ?_) | (with_reducible refine SinceOf.drewN ?_ _) | (with_reducible refine SinceOf.later ?_ _) | (with_reducible refine SinceOf.further ?_ _) | (with_reducible refine SinceOf.setCell ?_ (by first | exact Nat.le_refl _ | (simp; done) | omega | (simp; omega)) _)))⟩
      case rest =>
        obtain ⟨b7, b8, rfl, rfl, v7, v8, ⟨z7, rfl⟩⟩ := hcut
        have c0 := v7.c0
        have c1 := v7.c1
        have d0 := v8.c0
        have d1 := v8.c1
        have o7 : Nonempty (Old z7.wd b7) := ⟨⟨v7.lt⟩⟩
        have o8 : Nonempty (Old z7.wd b8) := ⟨⟨v8.lt⟩⟩
        simp only at c0 c1 d0 d1
        have l7 := v7.lt
        clear v7 v8 hw1
        go_wp2_with fail
        refine (S1 _).calls.mono ?_
        rintro e _ ⟨rfl, y1, rfl⟩
        go_wp2_with fail
        refine (CC _).calls.mono ?_
        rintro e _ ⟨rfl, y2, rfl⟩
        have g1 : decide (cr ≤ 0) = false := decide_eq_false (by omega)
        have w1 : wrap64 (cr * cr) = cr * cr := i64.wrap (by have := HN.out; unfold i64; omega)
        have w2 : wrap64 (k * k) = k * k := i64.wrap (by unfold i64; omega)
        have w3 : wrap64 (k * k * dv) = k * k * dv := i64.wrap (by have := HN.out; unfold i64; omega)
        have g2 : decide (cr * cr < k * k * dv) = false := decide_eq_false (by have := HN.out; omega)
        go_wp2_with fail
        refine (DD _).calls.mono ?_
        rintro e _ ⟨rfl, y3, rfl⟩
        go_wp2_with fail
        refine (N _).calls.mono ?_
        rintro e _ ⟨rfl, y4, rfl⟩
        clear w1 w2 w3 g1 g2
        go_wp2_with fail
        go_roundg (o.length - (i + 1))
        case measure => omega
        case rel => exact ⟨i + 1, hlt, Nat.le_refl _, by go_num, by (repeat (first | (with_reducible exact SinceOf.refl _) | (with_reducible assumption) | (with_reducible refine SinceOf.alloc ?_ _) | (with_reducible refine SinceOf.drew ?_) | (with_reducible refine SinceOf.drewN ?_ _) | (with_reducible refine SinceOf.later ?_ _) | (with_reducible refine SinceOf.further ?_ _) | (with_reducible refine SinceOf.setCell ?_ (by first | exact Nat.le_refl _ | (simp; done) | omega | (simp; omega)) _)))⟩
    · obtain rfl : i = o.length := by omega
      by_cases hk1' : k = 1
      · have g1 : (k == 1) = true := by simpa using hk1'
        clear hk1'
        go_wp2_with fail
        go_returns
        exact ⟨rfl, by (repeat (first | (with_reducible exact SinceOf.refl _) | (with_reducible assumption) | (with_reducible refine SinceOf.alloc ?_ _) | (with_reducible refine SinceOf.drew ?_) | (with_reducible refine SinceOf.drewN ?_ _) | (with_reducible refine SinceOf.later ?_ _) | (with_reducible refine SinceOf.further ?_ _) | (with_reducible refine SinceOf.setCell ?_ (by first | exact Nat.le_refl _ | (simp; done) | omega | (simp; omega)) _)))⟩
      · have g1 : (k == 1) = false := by simpa using hk1'
        have HL := Lib.hid (HLs.out hk1')
        have hk3 : 1 ≤ k - 1 := by omega
        have hk4 : 0 ≤ k - 1 := by omega
        clear hk1' HLs
        go_wp2_with fail
        refine (octagon_any (k - 1) _).mono ?_
        rintro e _ ⟨A2, c2, r2, err2, rfl, hv2, hres2, ⟨x5, rfl⟩⟩
        obtain ⟨rfl, rfl⟩ := octF_of hk3 (by omega) hres2
        have h4 : 4 ≤ (octF (k - 1)).length := octF_four hk3 (by omega)
        have h48 := (octF_conv hk3 (by omega)).2
        have HV2 := Lib.hid hv2
        clear hv2 hres2
        generalize octF (k - 1) = o2 at *
        go_wp2_with fail
        go_loopg [13] o2.length (fun gas s13 wr => ∃ i : Nat, i ≤ o2.length ∧ o2.length - i ≤ gas ∧ s13 = .int .i64 i ∧ SinceOf x5.wd wr)
        case atStart => exact ⟨0, by omega, by omega, rfl, by (repeat (first | (with_reducible exact SinceOf.refl _) | (with_reducible assumption) | (with_reducible refine SinceOf.alloc ?_ _) | (with_reducible refine SinceOf.drew ?_) | (with_reducible refine SinceOf.drewN ?_ _) | (with_reducible refine SinceOf.later ?_ _) | (with_reducible refine SinceOf.further ?_ _) | (with_reducible refine SinceOf.setCell ?_ (by first | exact Nat.le_refl _ | (simp; done) | omega | (simp; omega)) _)))⟩
        case round =>
          obtain ⟨i, hi, hgas, rfl, ⟨u, rfl⟩⟩ := hrel
          by_cases hlt : i < o2.length
          · have hv := HV2.out.of (w' := u.wd) (by (repeat (first | (with_reducible exact SinceOf.refl _) | (with_reducible assumption) | (with_reducible refine SinceOf.alloc ?_ _) | (with_reducible refine SinceOf.drew ?_) | (with_reducible refine SinceOf.drewN ?_ _) | (with_reducible refine SinceOf.later ?_ _) | (with_reducible refine SinceOf.further ?_ _) | (with_reducible refine SinceOf.setCell ?_ (by first | exact Nat.le_refl _ | (simp; done) | omega | (simp; omega)) _))))
            obtain ⟨g, off, rfl, hr⟩ := hv.at_ (by omega)
            have hO := hr.there
            have a0 := hr.v0 i hlt
            have a1 := hr.v1 i hlt
            have hw := HL.out _ (List.getElem_mem hlt)
            have WW := fun W (hW : SinceOf x2.wd W) => where_any A c o o2[i].1 o2[i].2 W (HV.out.1.of hW) (by omega)
            have g2 : (whereV o (o2[i].1, o2[i].2) == 0) = false := by simpa using hw
            generalize whereV o (o2[i].1, o2[i].2) = wv at *
            clear hw hr hv
            generalize o2[i].1 = px at *
            generalize o2[i].2 = py at *
            go_wp2_with fail
            refine (WW _ (by (repeat (first | (with_reducible exact SinceOf.refl _) | (with_reducible assumption) | (with_reducible refine SinceOf.alloc ?_ _) | (with_reducible refine SinceOf.drew ?_) | (with_reducible refine SinceOf.drewN ?_ _) | (with_reducible refine SinceOf.later ?_ _) | (with_reducible refine SinceOf.further ?_ _) | (with_reducible refine SinceOf.setCell ?_ (by first | exact Nat.le_refl _ | (simp; done) | omega | (simp; omega)) _))))).calls.mono ?_
            rintro e _ ⟨rfl, y1, rfl⟩
            go_wp2_with fail
            go_roundg (o2.length - (i + 1))
            case measure => omega
            case rel => exact ⟨i + 1, hlt, Nat.le_refl _, by go_num, by (repeat (first | (with_reducible exact SinceOf.refl _) | (with_reducible assumption) | (with_reducible refine SinceOf.alloc ?_ _) | (with_reducible refine SinceOf.drew ?_) | (with_reducible refine SinceOf.drewN ?_ _) | (with_reducible refine SinceOf.later ?_ _) | (with_reducible refine SinceOf.further ?_ _) | (with_reducible refine SinceOf.setCell ?_ (by first | exact Nat.le_refl _ | (simp; done) | omega | (simp; omega)) _)))⟩
          · obtain rfl : i = o2.length := by omega
            have g3 : decide (4 ≤ (o2.length : Int)) = true := decide_eq_true (by omega)
            go_wp2_with fail
            go_returns
            exact ⟨rfl, by (repeat (first | (with_reducible exact SinceOf.refl _) | (with_reducible assumption) | (with_reducible refine SinceOf.alloc ?_ _) | (with_reducible refine SinceOf.drew ?_) | (with_reducible refine SinceOf.drewN ?_ _) | (with_reducible refine SinceOf.later ?_ _) | (with_reducible refine SinceOf.further ?_ _) | (with_reducible refine SinceOf.setCell ?_ (by first | exact Nat.le_refl _ | (simp; done) | omega | (simp; omega)) _)))⟩
end Go.Proofs.Yticmfmcflikneaa
