/- Layer 46: where a point lies, of the reference of layer 8 (whole and rational points). -/
import Derived.Test.YtkpnffokjpgalaaGreatKJnt35
import Derived.Test.YtkpnffokjpgalaaGreatKJnt19
namespace Go.Proofs.YtkpnffokjpgalaaGreat
set_option linter.unusedVariables false
set_option linter.unusedSimpArgs false
open Go.RowKit Go.Sort
attribute [local go_sem ↓] Go.wp_at_zero Go.wp_at_succ

/-- Does a point lie on an edge of a valid ring? -/
def rimB (r : List Pt) (p : Pt) : Bool := okB r && (withinB p.1 p.2 4000 && (edgesV r).any fun s => onSB s.1 s.2 p)
theorem any_dropE (q : SegP → Bool) {l : List SegP} {k : Nat} (h : k < l.length) : (l.drop k).any q = (q l[k] || (l.drop (k + 1)).any q) := by
  rw [List.drop_eq_getElem_cons h, List.any_cons]
theorem wrap_8 {x : Int} (h : -8000 ≤ x ∧ x ≤ 8000) : IntKind.i64.wrap x = x := IntWalk.i64_in _ (by omega)
/-- What WherePoint answers: whether it says 'boundary' is all that is said. -/
def RimE (w : World) (b : Bool) (e : Ending) (w' : World) : Prop := ∃ k : Int, e = .returned (.int .i64 k) ∧ (k == 1) = b ∧ SinceOf w w'
set_option maxRecDepth 100000 in
set_option maxHeartbeats 16000000 in
theorem refWherePoint_any (A : Option Addr) (c : Nat) (r : List (Int × Int)) (p : Pt) (w : World) (h : IsVecs w A c r) (hlen : r.length < 4611686018427387904) (hp : near8 p) :
    Calls Tryz.prog 57 #[.slice A r.length c, pv1 p.1 p.2] w (RimE w (rimB r p)) := by
  have V := fun W (hW : SinceOf w W) => refRingValid_any A c r W (h.of hW) hlen
  have P1 := refValidPoint_any p.1 p.2 hp
  have H := Lib.hid (And.intro h hp)
  clear h
  generalize hres : rimB r p = res
  have HR := Lib.hid hres
  clear hres
  unfold near8 at hp
  cases hok : okB r
  · obtain rfl : res = false := by rw [← HR.out]; unfold rimB; rw [hok]; rfl
    rw [hok] at V
    obtain ⟨px, py⟩ := p
    clear hok P1 hp
    go_enter Tryz.func57, Tryz.ntmps57
    go_wp2_with fail
    refine (V _ (by (repeat (first | (with_reducible exact SinceOf.refl _) | (with_reducible assumption) | (with_reducible refine SinceOf.alloc ?_ _) | (with_reducible refine SinceOf.drew ?_) | (with_reducible refine SinceOf.drewN ?_ _) | (with_reducible refine SinceOf.later ?_ _) | (with_reducible refine SinceOf.further ?_ _) | (with_reducible refine SinceOf.setCell ?_ (by first | exact Nat.le_refl _ | (simp; done) | omega | (simp; omega)) _))))).calls.mono ?_
    rintro e _ ⟨rfl, x1, rfl⟩
    go_wp2_with fail
    go_returns
    exact ⟨0, rfl, rfl, by (repeat (first | (with_reducible exact SinceOf.refl _) | (with_reducible assumption) | (with_reducible refine SinceOf.alloc ?_ _) | (with_reducible refine SinceOf.drew ?_) | (with_reducible refine SinceOf.drewN ?_ _) | (with_reducible refine SinceOf.later ?_ _) | (with_reducible refine SinceOf.further ?_ _) | (with_reducible refine SinceOf.setCell ?_ (by first | exact Nat.le_refl _ | (simp; done) | omega | (simp; omega)) _)))⟩
  rw [hok] at V
  cases hwb : withinB p.1 p.2 4000
  · obtain rfl : res = false := by rw [← HR.out]; unfold rimB; rw [hwb, hok]; rfl
    rw [hwb] at P1
    obtain ⟨px, py⟩ := p
    simp only at P1
    clear hok hwb hp
    go_enter Tryz.func57, Tryz.ntmps57
    go_wp2_with fail
    refine (V _ (by (repeat (first | (with_reducible exact SinceOf.refl _) | (with_reducible assumption) | (with_reducible refine SinceOf.alloc ?_ _) | (with_reducible refine SinceOf.drew ?_) | (with_reducible refine SinceOf.drewN ?_ _) | (with_reducible refine SinceOf.later ?_ _) | (with_reducible refine SinceOf.further ?_ _) | (with_reducible refine SinceOf.setCell ?_ (by first | exact Nat.le_refl _ | (simp; done) | omega | (simp; omega)) _))))).calls.mono ?_
    rintro e _ ⟨rfl, x1, rfl⟩
    go_wp2_with fail
    refine (P1 _).calls.mono ?_
    rintro e _ ⟨rfl, x2, rfl⟩
    go_wp2_with fail
    go_returns
    exact ⟨0, rfl, rfl, by (repeat (first | (with_reducible exact SinceOf.refl _) | (with_reducible assumption) | (with_reducible refine SinceOf.alloc ?_ _) | (with_reducible refine SinceOf.drew ?_) | (with_reducible refine SinceOf.drewN ?_ _) | (with_reducible refine SinceOf.later ?_ _) | (with_reducible refine SinceOf.further ?_ _) | (with_reducible refine SinceOf.setCell ?_ (by first | exact Nat.le_refl _ | (simp; done) | omega | (simp; omega)) _)))⟩
  rw [hwb] at P1
  have hE := okB_len40 hok
  have hsg := okB_edge hok
  have hmost := (okB_iff.1 hok).most
  have ED := fun W (hW : SinceOf w W) => refEdges_any A c r W (H.out.1.of hW) (by omega)
  have hany : ((edgesV r).drop 0).any (fun s => onSB s.1 s.2 p) = res := by rw [← HR.out]; unfold rimB; rw [hok, hwb]; simp
  obtain ⟨q, hq⟩ : ∃ q : Pt, q = p := ⟨_, rfl⟩
  rw [← hq] at H hany
  have HQ := Lib.hid hq
  obtain ⟨px, py⟩ := p
  simp only at P1 hp
  clear hq hwb
  generalize edgesV r = E at *
  have HA := Lib.hid (And.intro hany hsg)
  clear hany hsg hok hmost
  obtain ⟨hE3, hE40⟩ := hE
  go_enter Tryz.func57, Tryz.ntmps57
  go_wp2_with fail
  refine (V _ (by (repeat (first | (with_reducible exact SinceOf.refl _) | (with_reducible assumption) | (with_reducible refine SinceOf.alloc ?_ _) | (with_reducible refine SinceOf.drew ?_) | (with_reducible refine SinceOf.drewN ?_ _) | (with_reducible refine SinceOf.later ?_ _) | (with_reducible refine SinceOf.further ?_ _) | (with_reducible refine SinceOf.setCell ?_ (by first | exact Nat.le_refl _ | (simp; done) | omega | (simp; omega)) _))))).calls.mono ?_
  rintro e _ ⟨rfl, x1, rfl⟩
  go_wp2_with fail
  refine (P1 _).calls.mono ?_
  rintro e _ ⟨rfl, x2, rfl⟩
  go_wp2_with fail
  refine (ED _ (by (repeat (first | (with_reducible exact SinceOf.refl _) | (with_reducible assumption) | (with_reducible refine SinceOf.alloc ?_ _) | (with_reducible refine SinceOf.drew ?_) | (with_reducible refine SinceOf.drewN ?_ _) | (with_reducible refine SinceOf.later ?_ _) | (with_reducible refine SinceOf.further ?_ _) | (with_reducible refine SinceOf.setCell ?_ (by first | exact Nat.le_refl _ | (simp; done) | omega | (simp; omega)) _))))).mono ?_
  rintro e _ ⟨A8, c8, rfl, ho8, ⟨x3, rfl⟩⟩
  have H8 := Lib.hid (ho8.isRow encE_len)
  clear ED ho8 V P1
  have hx3 := x3.size
  have hx2 := x2.size
  have hx1 := x1.size
  (try simp only [World.size_alloc] at hx1)
  have ow : Nonempty (Old x3.wd w.heap.size) := ⟨⟨by omega⟩⟩
  have p0 : x3.wd.cell? ⟨w.heap.size, 0, none⟩ = some (.int .i64 px) := by simp [go_sem]
  have p1 : x3.wd.cell? ⟨w.heap.size, 1, none⟩ = some (.int .i64 py) := by simp [go_sem]
  have p2 : x3.wd.cell? ⟨w.heap.size, 2, none⟩ = some (.int .i64 1) := by simp [go_sem]
  have hS3 : SinceOf w x3.wd := by (repeat (first | (with_reducible exact SinceOf.refl _) | (with_reducible assumption) | (with_reducible refine SinceOf.alloc ?_ _) | (with_reducible refine SinceOf.drew ?_) | (with_reducible refine SinceOf.drewN ?_ _) | (with_reducible refine SinceOf.later ?_ _) | (with_reducible refine SinceOf.further ?_ _) | (with_reducible refine SinceOf.setCell ?_ (by first | exact Nat.le_refl _ | (simp; done) | omega | (simp; omega)) _)))
  have H3 := Lib.hid hS3
  clear hS3 hx3 hx2 hx1
  go_wp2_with fail
  go_loopg [6, 7] E.length (fun gas s6 s7 wr => ∃ (i : Nat) (b : Bool), i ≤ E.length ∧ E.length - i ≤ gas ∧ s6 = .bool b ∧ s7 = .int .i64 i ∧ (E.drop i).any (fun s => onSB s.1 s.2 q) = res ∧ SinceOf x3.wd wr)
  case atStart => exact ⟨0, false, by omega, by omega, rfl, rfl, HA.out.1, by (repeat (first | (with_reducible exact SinceOf.refl _) | (with_reducible assumption) | (with_reducible refine SinceOf.alloc ?_ _) | (with_reducible refine SinceOf.drew ?_) | (with_reducible refine SinceOf.drewN ?_ _) | (with_reducible refine SinceOf.later ?_ _) | (with_reducible refine SinceOf.further ?_ _) | (with_reducible refine SinceOf.setCell ?_ (by first | exact Nat.le_refl _ | (simp; done) | omega | (simp; omega)) _)))⟩
  case round =>
    obtain ⟨i, b, hi, hgas, rfl, rfl, hfin, ⟨z, rfl⟩⟩ := hrel
    by_cases hlt : i < E.length
    · have hv0 := H8.out.of (w' := z.wd) (by (repeat (first | (with_reducible exact SinceOf.refl _) | (with_reducible assumption) | (with_reducible refine SinceOf.alloc ?_ _) | (with_reducible refine SinceOf.drew ?_) | (with_reducible refine SinceOf.drewN ?_ _) | (with_reducible refine SinceOf.later ?_ _) | (with_reducible refine SinceOf.further ?_ _) | (with_reducible refine SinceOf.setCell ?_ (by first | exact Nat.le_refl _ | (simp; done) | omega | (simp; omega)) _))))
      obtain ⟨g, off, rfl, hr⟩ := hv0.at_ (by omega)
      have hO := hr.there
      have a0 := hr.e0 i hlt
      have a1 := hr.e1 i hlt
      have a2 := hr.e2 i hlt
      have a3 := hr.e3 i hlt
      rw [any_dropE _ hlt] at hfin
      have hso := HA.out.2 _ (List.getElem_mem hlt)
      obtain ⟨s, hs⟩ : ∃ s, s = E[i] := ⟨_, rfl⟩
      rw [← hs] at a0 a1 a2 a3 hfin hso
      have ON := refOn8_any s q hso H.out.2
      obtain ⟨h1, h2⟩ := segOk_near.1 hso
      have S8 := refSide8_any s.1 s.2 q h1 h2 H.out.2
      unfold near4 at h1 h2
      obtain ⟨bb, hbb⟩ : ∃ b, b = onSB s.1 s.2 q := ⟨_, rfl⟩
      rw [← hbb] at ON hfin
      generalize cmpi (det s.1 s.2 q) 0 = sd at *
      rw [HQ.out] at ON S8
      have HF := Lib.hid hfin
      clear hfin hso hs hr hv0 hbb
      obtain ⟨⟨ax, ay⟩, bx, by'⟩ := s
      simp only at a0 a1 a2 a3 h1 h2 S8
      change ∀ w, Gives _ _ #[sg ax ay bx by', pv1 px py] w _ at ON
      change ∀ w, Gives _ _ #[vv ax ay, vv bx by', pv1 px py] w _ at S8
      go_wp2_with fail
      refine region_since (by kernel_rfl) (by kernel_rfl) ?_
      repeat (go_big_quiet_step ((with_reducible refine Yields.since (ON _).yields)))
      refine wpQuiet_nil ?_
      rintro _ ⟨z1, rfl⟩
      clear ON
      cases bb
      · go_upto_region 10 with fail
        go_cut [8, 9] from 34 to 43 (fun s8 s9 wx => ∃ b8 b9 : Nat, s8 = .pointer (some ⟨b8, 0, none⟩) ∧ s9 = .pointer (some ⟨b9, 0, none⟩) ∧ VarJ wx b8 (ax, ay) ∧ VarJ wx b9 (bx, by') ∧ SinceOf z1.wd wx)
        case first =>
          go_region
          all_goals
            go_wp2_with fail
            go_meet
            refine ⟨_, _, rfl, rfl, ?_, ?_, by (repeat (first | (with_reducible exact SinceOf.refl _) | (with_reducible assumption) | (with_reducible refine SinceOf.alloc ?_ _) | (with_reducible refine SinceOf.drew ?_) | (with_reducible refine SinceOf.drewN ?_ _) | (with_reducible refine SinceOf.later ?_ _) | (with_reducible refine SinceOf.further ?_ _) | (with_reducible refine SinceOf.setCell ?_ (by first | exact Nat.le_refl _ | (simp; done) | omega | (simp; omega)) _)))⟩
            · (repeat (first | ((with_reducible refine VarJ.new1 _ _ _ _ _ ?_); (first | rfl | (simp; done) | omega | (simp; omega))) | (with_reducible refine VarJ.put (p := (0, 0)) ?_ _ _) | ((with_reducible refine VarJ.other ?_ ?_ _ _); rotate_left 1; (first | omega | (simp; omega))) | (with_reducible refine VarJ.allocd ?_ _) | (with_reducible refine VarJ.latr ?_ _) | (with_reducible refine VarJ.drewd ?_)))
            · (repeat (first | ((with_reducible refine VarJ.new1 _ _ _ _ _ ?_); (first | rfl | (simp; done) | omega | (simp; omega))) | (with_reducible refine VarJ.put (p := (0, 0)) ?_ _ _) | ((with_reducible refine VarJ.other ?_ ?_ _ _); rotate_left 1; (first | omega | (simp; omega))) | (with_reducible refine VarJ.allocd ?_ _) | (with_reducible refine VarJ.latr ?_ _) | (with_reducible refine VarJ.drewd ?_)))
        case rest =>
          obtain ⟨b8, b9, rfl, rfl, hv8, hv9, ⟨z2, rfl⟩⟩ := hcut
          have o8 : Nonempty (Old z2.wd b8) := ⟨⟨hv8.lt⟩⟩
          have o9 : Nonempty (Old z2.wd b9) := ⟨⟨hv9.lt⟩⟩
          have u0 := hv8.c0
          have u1 := hv8.c1
          have v0 := hv9.c0
          have v1 := hv9.c1
          simp only at u0 u1 v0 v1
          have w1 := wrap_8 (x := ay) (by omega)
          have w2 := wrap_8 (x := by') (by omega)
          clear hv8 hv9 a0 a1 a2 a3
          have n0 : z2.wd.cell? ⟨w.heap.size, 0, none⟩ = some (.int .i64 px) := by simp [go_sem, *]
          have n1 : z2.wd.cell? ⟨w.heap.size, 1, none⟩ = some (.int .i64 py) := by simp [go_sem, *]
          have n2 : z2.wd.cell? ⟨w.heap.size, 2, none⟩ = some (.int .i64 1) := by simp [go_sem, *]
          obtain ⟨c1, hc1⟩ : ∃ b, b = decide (ay ≤ py) := ⟨_, rfl⟩
          obtain ⟨c2, hc2⟩ : ∃ b, b = decide (py < by') := ⟨_, rfl⟩
          obtain ⟨c3, hc3⟩ : ∃ b, b = decide (by' ≤ py) := ⟨_, rfl⟩
          obtain ⟨c4, hc4⟩ : ∃ b, b = decide (py < ay) := ⟨_, rfl⟩
          go_upto_region 11 with fail
          go_cut [10, 11] from 44 to 79 (fun s10 s11 wx => ∃ u d : Bool, s10 = .bool u ∧ s11 = .bool d ∧ SinceOf z2.wd wx)
          case first =>
            cases c1 <;> cases c3 <;>
            · have d1 := hc1.symm
              have d2 := hc2.symm
              have d3 := hc3.symm
              have d4 := hc4.symm
              clear hc1 hc2 hc3 hc4
              refine region_since (by kernel_rfl) (by kernel_rfl) ?_
              repeat (go_big_quiet_step (fail))
              refine wpQuiet_nil ?_
              rintro _ ⟨z3, rfl⟩
              go_wp2_with fail
              go_meet
              exact ⟨_, _, rfl, rfl, by (repeat (first | (with_reducible exact SinceOf.refl _) | (with_reducible assumption) | (with_reducible refine SinceOf.alloc ?_ _) | (with_reducible refine SinceOf.drew ?_) | (with_reducible refine SinceOf.drewN ?_ _) | (with_reducible refine SinceOf.later ?_ _) | (with_reducible refine SinceOf.further ?_ _) | (with_reducible refine SinceOf.setCell ?_ (by first | exact Nat.le_refl _ | (simp; done) | omega | (simp; omega)) _)))⟩
          case rest =>
            obtain ⟨u, d, rfl, rfl, ⟨z3, rfl⟩⟩ := hcut
            clear hc1 hc2 hc3 hc4 w1 w2 h1 h2
            have k0 : (false || (E.drop (i + 1)).any fun s => onSB s.1 s.2 q) = res := HF.out
            have HK := Lib.hid k0
            clear k0 HF
            go_upto_region 12 with fail
            go_cut [97] from 80 to 97 (fun s97 wx => ∃ f : Bool, s97 = .bool f ∧ SinceOf z3.wd wx)
            case first =>
              obtain ⟨e1, he1⟩ : ∃ b, b = decide (0 < sd) := ⟨_, rfl⟩
              obtain ⟨e2, he2⟩ : ∃ b, b = decide (sd < 0) := ⟨_, rfl⟩
              have f1 := he1.symm
              have f2 := he2.symm
              clear he1 he2
              cases u <;> cases d <;> cases e1 <;>
              · go_wp2_with fail
                repeat (refine (S8 _).calls.mono ?_; rintro e _ ⟨rfl, y1, rfl⟩; go_wp2_with fail)
                go_meet
                exact ⟨_, rfl, by (repeat (first | (with_reducible exact SinceOf.refl _) | (with_reducible assumption) | (with_reducible refine SinceOf.alloc ?_ _) | (with_reducible refine SinceOf.drew ?_) | (with_reducible refine SinceOf.drewN ?_ _) | (with_reducible refine SinceOf.later ?_ _) | (with_reducible refine SinceOf.further ?_ _) | (with_reducible refine SinceOf.setCell ?_ (by first | exact Nat.le_refl _ | (simp; done) | omega | (simp; omega)) _)))⟩
            case rest =>
              obtain ⟨f, rfl, ⟨z4, rfl⟩⟩ := hcut
              cases f
              · go_wp2_with fail
                go_roundg (E.length - (i + 1))
                case measure => omega
                case rel => exact ⟨i + 1, b, hlt, Nat.le_refl _, rfl, by go_num, by simpa using HK.out, by (repeat (first | (with_reducible exact SinceOf.refl _) | (with_reducible assumption) | (with_reducible refine SinceOf.alloc ?_ _) | (with_reducible refine SinceOf.drew ?_) | (with_reducible refine SinceOf.drewN ?_ _) | (with_reducible refine SinceOf.later ?_ _) | (with_reducible refine SinceOf.further ?_ _) | (with_reducible refine SinceOf.setCell ?_ (by first | exact Nat.le_refl _ | (simp; done) | omega | (simp; omega)) _)))⟩
              · go_wp2_with fail
                go_roundg (E.length - (i + 1))
                case measure => omega
                case rel => exact ⟨i + 1, !b, hlt, Nat.le_refl _, rfl, by go_num, by simpa using HK.out, by (repeat (first | (with_reducible exact SinceOf.refl _) | (with_reducible assumption) | (with_reducible refine SinceOf.alloc ?_ _) | (with_reducible refine SinceOf.drew ?_) | (with_reducible refine SinceOf.drewN ?_ _) | (with_reducible refine SinceOf.later ?_ _) | (with_reducible refine SinceOf.further ?_ _) | (with_reducible refine SinceOf.setCell ?_ (by first | exact Nat.le_refl _ | (simp; done) | omega | (simp; omega)) _)))⟩
      · obtain rfl : res = true := by have := HF.out; simpa using this.symm
        go_wp2_with fail
        go_returns
        exact ⟨1, rfl, rfl, H3.out.trans (by (repeat (first | (with_reducible exact SinceOf.refl _) | (with_reducible assumption) | (with_reducible refine SinceOf.alloc ?_ _) | (with_reducible refine SinceOf.drew ?_) | (with_reducible refine SinceOf.drewN ?_ _) | (with_reducible refine SinceOf.later ?_ _) | (with_reducible refine SinceOf.further ?_ _) | (with_reducible refine SinceOf.setCell ?_ (by first | exact Nat.le_refl _ | (simp; done) | omega | (simp; omega)) _))))⟩
    · obtain rfl : i = E.length := by omega
      rw [List.drop_length, List.any_nil] at hfin
      subst hfin
      cases b
      · go_wp2_with fail
        go_returns
        exact ⟨0, rfl, rfl, H3.out.trans (by (repeat (first | (with_reducible exact SinceOf.refl _) | (with_reducible assumption) | (with_reducible refine SinceOf.alloc ?_ _) | (with_reducible refine SinceOf.drew ?_) | (with_reducible refine SinceOf.drewN ?_ _) | (with_reducible refine SinceOf.later ?_ _) | (with_reducible refine SinceOf.further ?_ _) | (with_reducible refine SinceOf.setCell ?_ (by first | exact Nat.le_refl _ | (simp; done) | omega | (simp; omega)) _))))⟩
      · go_wp2_with fail
        go_returns
        exact ⟨2, rfl, rfl, H3.out.trans (by (repeat (first | (with_reducible exact SinceOf.refl _) | (with_reducible assumption) | (with_reducible refine SinceOf.alloc ?_ _) | (with_reducible refine SinceOf.drew ?_) | (with_reducible refine SinceOf.drewN ?_ _) | (with_reducible refine SinceOf.later ?_ _) | (with_reducible refine SinceOf.further ?_ _) | (with_reducible refine SinceOf.setCell ?_ (by first | exact Nat.le_refl _ | (simp; done) | omega | (simp; omega)) _))))⟩
theorem withinB_8000 {x y : Int} (h : withinB x y 8000 = true) : near8 (x, y) := by
  unfold withinB at h
  rw [show wneg 8000 = -8000 from by unfold wneg; decide +kernel] at h
  simp only [Bool.and_eq_true, decide_eq_true_eq] at h
  unfold near8
  simp only
  omega
theorem withinB_far {x y : Int} (h : withinB x y 8000 = false) : withinB x y 4000 = false := by
  unfold withinB at *
  rw [show wneg 8000 = -8000 from by unfold wneg; decide +kernel] at h
  rw [show wneg 4000 = -4000 from by unfold wneg; decide +kernel]
  rw [← Bool.not_eq_true] at h ⊢
  simp only [Bool.and_eq_true, decide_eq_true_eq] at h ⊢
  omega
set_option maxRecDepth 100000 in
set_option maxHeartbeats 8000000 in
theorem refWhere_any (A : Option Addr) (c : Nat) (r : List (Int × Int)) (px py : Int) (w : World) (h : IsVecs w A c r) (hlen : r.length < 4611686018427387904) :
    Calls Tryz.prog 22 #[.slice A r.length c, vv px py] w (RimE w (rimB r (px, py))) := by
  have H := Lib.hid h
  clear h
  have W1 := refWithin_any px py 8000
  have PO := refPointOf_any px py
  cases hb : withinB px py 8000
  · have hr : rimB r (px, py) = false := by unfold rimB; rw [withinB_far hb]; simp
    rw [hr]
    rw [hb] at W1
    clear hb hr PO
    go_enter Tryz.func22, Tryz.ntmps22
    go_wp2_with fail
    refine (W1 _).calls.mono ?_
    rintro e _ ⟨rfl, x1, rfl⟩
    go_wp2_with fail
    go_returns
    exact ⟨0, rfl, rfl, by (repeat (first | (with_reducible exact SinceOf.refl _) | (with_reducible assumption) | (with_reducible refine SinceOf.alloc ?_ _) | (with_reducible refine SinceOf.drew ?_) | (with_reducible refine SinceOf.drewN ?_ _) | (with_reducible refine SinceOf.later ?_ _) | (with_reducible refine SinceOf.further ?_ _) | (with_reducible refine SinceOf.setCell ?_ (by first | exact Nat.le_refl _ | (simp; done) | omega | (simp; omega)) _)))⟩
  · have hn := withinB_8000 hb
    rw [hb] at W1
    have WP := fun W (hW : SinceOf w W) => refWherePoint_any A c r (px, py) W (H.out.of hW) hlen hn
    generalize rimB r (px, py) = res at *
    unfold RimE at WP ⊢
    clear hb hn
    go_enter Tryz.func22, Tryz.ntmps22
    go_wp2_with fail
    refine (W1 _).calls.mono ?_
    rintro e _ ⟨rfl, x1, rfl⟩
    go_wp2_with fail
    refine (PO _).calls.mono ?_
    rintro e _ ⟨rfl, x2, rfl⟩
    go_wp2_with fail
    refine (WP _ (by (repeat (first | (with_reducible exact SinceOf.refl _) | (with_reducible assumption) | (with_reducible refine SinceOf.alloc ?_ _) | (with_reducible refine SinceOf.drew ?_) | (with_reducible refine SinceOf.drewN ?_ _) | (with_reducible refine SinceOf.later ?_ _) | (with_reducible refine SinceOf.further ?_ _) | (with_reducible refine SinceOf.setCell ?_ (by first | exact Nat.le_refl _ | (simp; done) | omega | (simp; omega)) _))))).mono ?_
    rintro e _ ⟨k, rfl, hk, ⟨x3, rfl⟩⟩
    go_wp2_with fail
    go_returns
    exact ⟨k, rfl, hk, by (repeat (first | (with_reducible exact SinceOf.refl _) | (with_reducible assumption) | (with_reducible refine SinceOf.alloc ?_ _) | (with_reducible refine SinceOf.drew ?_) | (with_reducible refine SinceOf.drewN ?_ _) | (with_reducible refine SinceOf.later ?_ _) | (with_reducible refine SinceOf.further ?_ _) | (with_reducible refine SinceOf.setCell ?_ (by first | exact Nat.le_refl _ | (simp; done) | omega | (simp; omega)) _)))⟩
end Go.Proofs.YtkpnffokjpgalaaGreat
