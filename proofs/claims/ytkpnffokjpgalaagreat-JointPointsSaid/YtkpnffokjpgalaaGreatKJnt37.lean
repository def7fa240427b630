/- Layer 46: JointPoints, walked. -/
import Derived.Test.YtkpnffokjpgalaaGreatKJnt31
import Derived.Test.YtkpnffokjpgalaaGreatKJnt36
import Derived.Test.YtkpnffokjpgalaaGreatKJntR3
namespace Go.Proofs.YtkpnffokjpgalaaGreat
set_option linter.unusedVariables false
set_option linter.unusedSimpArgs false
open Go.RowKit Go.Sort
attribute [local go_sem ↓] Go.wp_at_zero Go.wp_at_succ

theorem onB_SB {s : SegP} (hs : IsSegN s) (p : Pt) : onB s p = (withinB p.1 p.2 4000 && onSB s.1 s.2 p) := by
  apply Bool.eq_iff_iff.2
  rw [Bool.and_eq_true, onSB_iff, onB_un hs, ← on_uns hs]
  constructor
  · intro h
    exact ⟨withinB_near.2 (inX_near hs.2.1 hs.2.2 h.1), h⟩
  · exact fun h => h.2
/-- A point lies on the rim of one of the rings exactly if it lies on one of their edges. -/
theorem rim_cut (p : Pt) : ∀ {rs : List (List Pt)}, (∀ r ∈ rs, okB r = true) → rs.any (fun r => rimB r p) = (cutL rs).any fun s => onB s p
  | [], _ => rfl
  | r :: rs, h => by
    have ih := rim_cut p (rs := rs) fun q hq => h q (by simp [hq])
    have hr := h r (by simp)
    have e : cutL (r :: rs) = edgesO r ++ cutL rs := by unfold cutL; rw [List.flatMap_cons]
    rw [List.any_cons, e, List.any_append, ih]
    congr 1
    unfold rimB
    rw [hr, Bool.true_and, (okB_edgeN hr).1]
    have hN := edgesO_N hr
    generalize edgesO r = E at *
    clear e ih
    induction E with
    | nil => simp
    | cons s E ihE =>
      rw [List.any_cons, List.any_cons, onB_SB (hN s (by simp)), ← ihE fun t ht => hN t (by simp [ht])]
      cases withinB p.1 p.2 4000 <;> simp
theorem any_dropRs (q : List Pt → Bool) {l : List (List Pt)} {k : Nat} (h : k < l.length) : (l.drop k).any q = (q l[k] || (l.drop (k + 1)).any q) := by
  rw [List.drop_eq_getElem_cons h, List.any_cons]
set_option maxRecDepth 100000 in
set_option maxHeartbeats 16000000 in
theorem jointPoints_any (A : Option Addr) (c : Nat) (X : List RgR) (px py : Int) (w : World) (h : IsRings w A c X) :
    Yields Tryz.prog 5 #[.slice A X.length c, vv px py] w (.bool true) := by
  apply Yields.ret
  have hlen := h.len
  have AW := awake46_any
  have FW := fun W (hW : SinceOf w W) => few46_any A c X W (h.of hW)
  have OP := fun W (hW : SinceOf w W) => once_any A c X W (h.of hW)
  have H := Lib.hid h
  clear h
  generalize fewX (vxs X) = fw at FW
  obtain ⟨res, hres⟩ : ∃ r, r = onceR (vxs X) := ⟨_, rfl⟩
  rw [← hres] at OP
  have HR := Lib.hid hres
  clear hres
  go_enter Tryz.func5, Tryz.ntmps5
  go_wp2_with fail
  refine (AW _).calls.mono ?_
  rintro e _ ⟨rfl, x1, rfl⟩
  clear AW
  go_wp2_with fail
  refine (FW _ (by (repeat (first | (with_reducible exact SinceOf.refl _) | (with_reducible assumption) | (with_reducible refine SinceOf.alloc ?_ _) | (with_reducible refine SinceOf.drew ?_) | (with_reducible refine SinceOf.drewN ?_ _) | (with_reducible refine SinceOf.later ?_ _) | (with_reducible refine SinceOf.further ?_ _) | (with_reducible refine SinceOf.setCell ?_ (by first | exact Nat.le_refl _ | (simp; done) | omega | (simp; omega)) _))))).calls.mono ?_
  rintro e _ ⟨rfl, x2, rfl⟩
  clear FW
  cases fw
  · go_wp2_with fail
    go_returns
    exact ⟨rfl, by (repeat (first | (with_reducible exact SinceOf.refl _) | (with_reducible assumption) | (with_reducible refine SinceOf.alloc ?_ _) | (with_reducible refine SinceOf.drew ?_) | (with_reducible refine SinceOf.drewN ?_ _) | (with_reducible refine SinceOf.later ?_ _) | (with_reducible refine SinceOf.further ?_ _) | (with_reducible refine SinceOf.setCell ?_ (by first | exact Nat.le_refl _ | (simp; done) | omega | (simp; omega)) _)))⟩
  · go_wp2_with fail
    refine (OP _ (by (repeat (first | (with_reducible exact SinceOf.refl _) | (with_reducible assumption) | (with_reducible refine SinceOf.alloc ?_ _) | (with_reducible refine SinceOf.drew ?_) | (with_reducible refine SinceOf.drewN ?_ _) | (with_reducible refine SinceOf.later ?_ _) | (with_reducible refine SinceOf.further ?_ _) | (with_reducible refine SinceOf.setCell ?_ (by first | exact Nat.le_refl _ | (simp; done) | omega | (simp; omega)) _))))).mono ?_
    rintro e _ ⟨A1, c1, rfl, o1, l1, ⟨x3, rfl⟩⟩
    have H1 := Lib.hid (o1.isRow encE_len)
    clear o1 OP
    have hx1 := x1.size
    have hx2 := x2.size
    have hx3 := x3.size
    (try simp only [World.size_alloc] at hx1)
    have ow : Nonempty (Old x3.wd w.heap.size) := ⟨⟨by omega⟩⟩
    have p0 : x3.wd.cell? ⟨w.heap.size, 0, none⟩ = some (.int .i64 px) := by simp [go_sem]
    have p1 : x3.wd.cell? ⟨w.heap.size, 1, none⟩ = some (.int .i64 py) := by simp [go_sem]
    have hS3 : SinceOf w x3.wd := by (repeat (first | (with_reducible exact SinceOf.refl _) | (with_reducible assumption) | (with_reducible refine SinceOf.alloc ?_ _) | (with_reducible refine SinceOf.drew ?_) | (with_reducible refine SinceOf.drewN ?_ _) | (with_reducible refine SinceOf.later ?_ _) | (with_reducible refine SinceOf.further ?_ _) | (with_reducible refine SinceOf.setCell ?_ (by first | exact Nat.le_refl _ | (simp; done) | omega | (simp; omega)) _)))
    have H3 := Lib.hid hS3
    clear hS3 hx1 hx2 hx3
    by_cases he : res.2 = 0
    · have hok : ∀ r ∈ vxs X, okB r = true := by
        have := HR.out
        unfold onceR at this
        split at this
        · rw [this] at he; simp at he
        · split at this
          · rename_i h1 h2; exact List.all_eq_true.1 h2
          · rw [this] at he; simp at he
      obtain ⟨L, hL⟩ : ∃ L, L = res.1 := ⟨_, rfl⟩
      have hL2 : L = onceF [] (vxs X) := by
        rw [hL, HR.out]
        unfold onceR
        rw [vxs_len]
        split
        · rename_i h120
          have := HR.out
          unfold onceR at this
          rw [vxs_len, if_pos h120] at this
          rw [this] at he
          simp at he
        · rw [if_pos (List.all_eq_true.2 hok)]
      rw [← hL] at H1 l1 ⊢
      have hcut : L.any (fun s => onB s (px, py)) = (vxs X).any fun r => rimB r (px, py) := by rw [hL2, once_points hok, rim_cut _ hok]
      have hapt : ∀ i (hi : i < L.length) k (hk : k < i), meetI L[i] L[k] ≠ 3 := by
        intro i hi k hk
        subst hL2
        exact once_apart hok hi hk
      generalize res.2 = re at *
      subst he
      have HP := Lib.hid (And.intro hcut hapt)
      clear hcut hapt hL2 hL hok HR
      go_wp2_with fail
      go_loopg [7, 9] X.length (fun gas s7 s9 wr => ∃ (i : Nat) (b : Bool), i ≤ X.length ∧ X.length - i ≤ gas ∧ s7 = .bool b ∧ s9 = .int .i64 i ∧ (b || ((vxs X).drop i).any fun r => rimB r (px, py)) = ((vxs X).any fun r => rimB r (px, py)) ∧ SinceOf x3.wd wr)
      case atStart => exact ⟨0, false, by omega, by omega, rfl, rfl, by simp, by (repeat (first | (with_reducible exact SinceOf.refl _) | (with_reducible assumption) | (with_reducible refine SinceOf.alloc ?_ _) | (with_reducible refine SinceOf.drew ?_) | (with_reducible refine SinceOf.drewN ?_ _) | (with_reducible refine SinceOf.later ?_ _) | (with_reducible refine SinceOf.further ?_ _) | (with_reducible refine SinceOf.setCell ?_ (by first | exact Nat.le_refl _ | (simp; done) | omega | (simp; omega)) _)))⟩
      case round =>
        obtain ⟨i, b, hi, hgas, rfl, rfl, hfin, ⟨z, rfl⟩⟩ := hrel
        by_cases hlt : i < X.length
        · have hx0 := H.out.of (w' := z.wd) (H3.out.trans (by (repeat (first | (with_reducible exact SinceOf.refl _) | (with_reducible assumption) | (with_reducible refine SinceOf.alloc ?_ _) | (with_reducible refine SinceOf.drew ?_) | (with_reducible refine SinceOf.drewN ?_ _) | (with_reducible refine SinceOf.later ?_ _) | (with_reducible refine SinceOf.further ?_ _) | (with_reducible refine SinceOf.setCell ?_ (by first | exact Nat.le_refl _ | (simp; done) | omega | (simp; omega)) _)))))
          obtain ⟨g, off, rfl, hr⟩ := hx0.row.at_ (by omega)
          have hO1 := hr.there
          have k0 := hr.g0 i hlt
          have hxr := hx0.all _ (List.getElem_mem hlt)
          have hlv : i < (vxs X).length := by rw [vxs_len]; exact hlt
          rw [any_dropRs _ hlv, vxs_at hlt] at hfin
          obtain ⟨x, hx⟩ : ∃ x, x = X[i] := ⟨_, rfl⟩
          rw [← hx] at k0 hxr hfin
          have WH := fun W (hW : SinceOf z.wd W) => refWhere_any x.A x.c x.xs px py W (hxr.row.of hW) hxr.len
          generalize rimB x.xs (px, py) = rb at *
          have HF := Lib.hid hfin
          obtain ⟨xA, xcc, xs⟩ := x
          simp only at k0 WH
          have b1 : (0 : Int) ≤ i := by omega
          have b2 : (i : Int) < X.length := by omega
          have q0 : z.wd.cell? ⟨w.heap.size, 0, none⟩ = some (.int .i64 px) := by simp [go_sem, *]
          have q1 : z.wd.cell? ⟨w.heap.size, 1, none⟩ = some (.int .i64 py) := by simp [go_sem, *]
          clear hfin hxr hr hx0 hx hlv
          unfold RimE at WH
          cases b
          · go_wp2_with fail
            go_region_held3 (fun w' => w'.cell? ⟨g, off + i, none⟩ = some (.slice xA xs.length xcc) ∧ w'.cell? ⟨w.heap.size, 0, none⟩ = some (.int .i64 px) ∧ w'.cell? ⟨w.heap.size, 1, none⟩ = some (.int .i64 py)) ((simp [go_sem, *]))
              ((go_at_call 22; (with_reducible refine (WH _ (by (repeat (first | (with_reducible exact SinceOf.refl _) | (with_reducible assumption) | (with_reducible refine SinceOf.alloc ?_ _) | (with_reducible refine SinceOf.drew ?_) | (with_reducible refine SinceOf.drewN ?_ _) | (with_reducible refine SinceOf.later ?_ _) | (with_reducible refine SinceOf.further ?_ _) | (with_reducible refine SinceOf.setCell ?_ (by first | exact Nat.le_refl _ | (simp; done) | omega | (simp; omega)) _))))).mono ?_); rintro e _ ⟨k, rfl, hk, ⟨y1, rfl⟩⟩))
            all_goals
              go_wp2_with fail
              go_roundg (X.length - (i + 1))
              case measure => omega
              case rel => exact ⟨i + 1, rb, hlt, Nat.le_refl _, by first | (rw [← hk]; done) | (rw [← hk]; rfl) | simp [hk], by go_num, by simpa using HF.out, by (repeat (first | (with_reducible exact SinceOf.refl _) | (with_reducible assumption) | (with_reducible refine SinceOf.alloc ?_ _) | (with_reducible refine SinceOf.drew ?_) | (with_reducible refine SinceOf.drewN ?_ _) | (with_reducible refine SinceOf.later ?_ _) | (with_reducible refine SinceOf.further ?_ _) | (with_reducible refine SinceOf.setCell ?_ (by first | exact Nat.le_refl _ | (simp; done) | omega | (simp; omega)) _)))⟩
          · go_wp2_with fail
            refine region_since (by kernel_rfl) (by kernel_rfl) ?_
            repeat (go_big_quiet_step (fail))
            refine wpQuiet_nil ?_
            rintro _ ⟨y1, rfl⟩
            go_wp2_with fail
            go_roundg (X.length - (i + 1))
            case measure => omega
            case rel => exact ⟨i + 1, true, hlt, Nat.le_refl _, rfl, by go_num, by simpa using HF.out, by (repeat (first | (with_reducible exact SinceOf.refl _) | (with_reducible assumption) | (with_reducible refine SinceOf.alloc ?_ _) | (with_reducible refine SinceOf.drew ?_) | (with_reducible refine SinceOf.drewN ?_ _) | (with_reducible refine SinceOf.later ?_ _) | (with_reducible refine SinceOf.further ?_ _) | (with_reducible refine SinceOf.setCell ?_ (by first | exact Nat.le_refl _ | (simp; done) | omega | (simp; omega)) _)))⟩
        · obtain rfl : i = X.length := by omega
          rw [show (vxs X).drop X.length = [] by rw [← vxs_len X]; exact List.drop_length, List.any_nil, Bool.or_false] at hfin
          have HB := Lib.hid hfin
          clear hfin
          go_wp2_with fail
          go_loopg [8, 10] L.length (fun gas s8 s10 wr => ∃ (j : Nat) (d : Bool), j ≤ L.length ∧ L.length - j ≤ gas ∧ s8 = .bool d ∧ s10 = .int .i64 j ∧ (d || (L.drop j).any fun s => onB s (px, py)) = (L.any fun s => onB s (px, py)) ∧ SinceOf z.wd wr)
          case atStart => exact ⟨0, false, by omega, by omega, rfl, rfl, by simp, by (repeat (first | (with_reducible exact SinceOf.refl _) | (with_reducible assumption) | (with_reducible refine SinceOf.alloc ?_ _) | (with_reducible refine SinceOf.drew ?_) | (with_reducible refine SinceOf.drewN ?_ _) | (with_reducible refine SinceOf.later ?_ _) | (with_reducible refine SinceOf.further ?_ _) | (with_reducible refine SinceOf.setCell ?_ (by first | exact Nat.le_refl _ | (simp; done) | omega | (simp; omega)) _)))⟩
          case round =>
            obtain ⟨j, d, hj, hgas2, rfl, rfl, hfin2, ⟨v, rfl⟩⟩ := hrel
            by_cases hlt2 : j < L.length
            · have hv0 := H1.out.of (w' := v.wd) (by (repeat (first | (with_reducible exact SinceOf.refl _) | (with_reducible assumption) | (with_reducible refine SinceOf.alloc ?_ _) | (with_reducible refine SinceOf.drew ?_) | (with_reducible refine SinceOf.drewN ?_ _) | (with_reducible refine SinceOf.later ?_ _) | (with_reducible refine SinceOf.further ?_ _) | (with_reducible refine SinceOf.setCell ?_ (by first | exact Nat.le_refl _ | (simp; done) | omega | (simp; omega)) _))))
              obtain ⟨g2, off2, rfl, hr2⟩ := hv0.at_ (by omega)
              have hO2 := hr2.there
              have a0 := hr2.e0 j hlt2
              have a1 := hr2.e1 j hlt2
              have a2 := hr2.e2 j hlt2
              have a3 := hr2.e3 j hlt2
              rw [any_dropE _ hlt2] at hfin2
              have hap := HP.out.2 j hlt2
              obtain ⟨s, hs⟩ : ∃ s, s = L[j] := ⟨_, rfl⟩
              rw [← hs] at a0 a1 a2 a3 hfin2 hap
              have ON := refOn_any s px py
              generalize onB s (px, py) = ob at ON hfin2
              have HF := Lib.hid (And.intro hfin2 (And.intro hap hr2))
              obtain ⟨⟨ax, ay⟩, bx, by'⟩ := s
              simp only at a0 a1 a2 a3
              change ∀ w, Gives _ _ #[sg ax ay bx by', vv px py] w _ at ON
              have q0 : v.wd.cell? ⟨w.heap.size, 0, none⟩ = some (.int .i64 px) := by simp [go_sem, *]
              have q1 : v.wd.cell? ⟨w.heap.size, 1, none⟩ = some (.int .i64 py) := by simp [go_sem, *]
              clear hfin2 hr2 hv0 hs hap
              go_upto_region 16 with fail
              go_cut [8] from 49 to 57 (fun s8 wx => s8 = .bool (d || ob) ∧ SinceOf v.wd wx)
              case first =>
                cases d <;>
                · refine region_since (by kernel_rfl) (by kernel_rfl) ?_
                  repeat (go_big_quiet_step ((with_reducible refine Yields.since (ON _).yields)))
                  refine wpQuiet_nil ?_
                  rintro _ ⟨y1, rfl⟩
                  go_wp2_with fail
                  go_meet
                  exact ⟨by first | rfl | simp, by (repeat (first | (with_reducible exact SinceOf.refl _) | (with_reducible assumption) | (with_reducible refine SinceOf.alloc ?_ _) | (with_reducible refine SinceOf.drew ?_) | (with_reducible refine SinceOf.drewN ?_ _) | (with_reducible refine SinceOf.later ?_ _) | (with_reducible refine SinceOf.further ?_ _) | (with_reducible refine SinceOf.setCell ?_ (by first | exact Nat.le_refl _ | (simp; done) | omega | (simp; omega)) _)))⟩
              case rest =>
                obtain ⟨rfl, ⟨v2, rfl⟩⟩ := hcut
                clear ON q0 q1 a0 a1 a2 a3
                go_wp2_with fail
                go_loopg [11] j (fun gas s11 wr => ∃ m : Nat, m ≤ j ∧ j - m ≤ gas ∧ s11 = .int .i64 m ∧ SinceOf v2.wd wr)
                case atStart => exact ⟨0, by omega, by omega, rfl, by (repeat (first | (with_reducible exact SinceOf.refl _) | (with_reducible assumption) | (with_reducible refine SinceOf.alloc ?_ _) | (with_reducible refine SinceOf.drew ?_) | (with_reducible refine SinceOf.drewN ?_ _) | (with_reducible refine SinceOf.later ?_ _) | (with_reducible refine SinceOf.further ?_ _) | (with_reducible refine SinceOf.setCell ?_ (by first | exact Nat.le_refl _ | (simp; done) | omega | (simp; omega)) _)))⟩
                case round =>
                  obtain ⟨m, hm, hgas3, rfl, ⟨u, rfl⟩⟩ := hrel
                  by_cases hlt3 : m < j
                  · have hr3 := HF.out.2.2.of (w' := u.wd) (by (repeat (first | (with_reducible exact SinceOf.refl _) | (with_reducible assumption) | (with_reducible refine SinceOf.alloc ?_ _) | (with_reducible refine SinceOf.drew ?_) | (with_reducible refine SinceOf.drewN ?_ _) | (with_reducible refine SinceOf.later ?_ _) | (with_reducible refine SinceOf.further ?_ _) | (with_reducible refine SinceOf.setCell ?_ (by first | exact Nat.le_refl _ | (simp; done) | omega | (simp; omega)) _))))
                    have hO3 := hr3.there
                    have a0 := hr3.e0 j hlt2
                    have a1 := hr3.e1 j hlt2
                    have a2 := hr3.e2 j hlt2
                    have a3 := hr3.e3 j hlt2
                    have d0 := hr3.e0 m (by omega)
                    have d1 := hr3.e1 m (by omega)
                    have d2 := hr3.e2 m (by omega)
                    have d3 := hr3.e3 m (by omega)
                    have hap := HP.out.2 j hlt2 m hlt3
                    generalize L[j] = s at *
                    generalize L[m]'(by omega) = t at *
                    have MT := refMeet_any s t
                    have e3 : (meetI s t == 3) = false := by simpa using hap
                    generalize meetI s t = mi at *
                    obtain ⟨⟨ax, ay⟩, bx, by'⟩ := s
                    obtain ⟨⟨cx, cy⟩, dx, dy⟩ := t
                    simp only at a0 a1 a2 a3 d0 d1 d2 d3
                    change ∀ w, Yields _ _ #[sg ax ay bx by', sg cx cy dx dy] w _ at MT
                    have b1 : (0 : Int) ≤ j := by omega
                    have b2 : (j : Int) < L.length := by omega
                    have b3 : (0 : Int) ≤ m := by omega
                    have b4 : (m : Int) < L.length := by omega
                    clear hr3 hap
                    go_wp2_with fail
                    refine region_since (by kernel_rfl) (by kernel_rfl) ?_
                    repeat (go_big_quiet_step ((with_reducible refine Yields.since (MT _))))
                    refine wpQuiet_nil ?_
                    rintro _ ⟨y1, rfl⟩
                    go_wp2_with fail
                    go_roundg (j - (m + 1))
                    case measure => omega
                    case rel => exact ⟨m + 1, hlt3, Nat.le_refl _, by go_num, by (repeat (first | (with_reducible exact SinceOf.refl _) | (with_reducible assumption) | (with_reducible refine SinceOf.alloc ?_ _) | (with_reducible refine SinceOf.drew ?_) | (with_reducible refine SinceOf.drewN ?_ _) | (with_reducible refine SinceOf.later ?_ _) | (with_reducible refine SinceOf.further ?_ _) | (with_reducible refine SinceOf.setCell ?_ (by first | exact Nat.le_refl _ | (simp; done) | omega | (simp; omega)) _)))⟩
                  · obtain rfl : m = j := by omega
                    go_wp2_with fail
                    go_roundg (L.length - (m + 1))
                    case measure => omega
                    case rel => exact ⟨m + 1, d || ob, hlt2, Nat.le_refl _, rfl, by go_num, by rw [Bool.or_assoc]; exact HF.out.1, by (repeat (first | (with_reducible exact SinceOf.refl _) | (with_reducible assumption) | (with_reducible refine SinceOf.alloc ?_ _) | (with_reducible refine SinceOf.drew ?_) | (with_reducible refine SinceOf.drewN ?_ _) | (with_reducible refine SinceOf.later ?_ _) | (with_reducible refine SinceOf.further ?_ _) | (with_reducible refine SinceOf.setCell ?_ (by first | exact Nat.le_refl _ | (simp; done) | omega | (simp; omega)) _)))⟩
            · obtain rfl : j = L.length := by omega
              rw [List.drop_length, List.any_nil, Bool.or_false, HP.out.1, ← HB.out] at hfin2
              subst hfin2
              go_wp2_with fail
              go_returns
              exact ⟨by simp, H3.out.trans (by (repeat (first | (with_reducible exact SinceOf.refl _) | (with_reducible assumption) | (with_reducible refine SinceOf.alloc ?_ _) | (with_reducible refine SinceOf.drew ?_) | (with_reducible refine SinceOf.drewN ?_ _) | (with_reducible refine SinceOf.later ?_ _) | (with_reducible refine SinceOf.further ?_ _) | (with_reducible refine SinceOf.setCell ?_ (by first | exact Nat.le_refl _ | (simp; done) | omega | (simp; omega)) _))))⟩
    · have hz : res.1 = [] := by
        rw [HR.out] at he ⊢
        unfold onceR at he ⊢
        split
        · rfl
        · rename_i h1
          rw [if_neg h1] at he
          split
          · rename_i h2; rw [if_pos h2] at he; exact absurd rfl he
          · rfl
      rw [hz]
      generalize res.2 = re at *
      have g1 : (re != 0) = true := by simpa using he
      go_wp2_with fail
      go_returns
      exact ⟨rfl, H3.out.trans (by (repeat (first | (with_reducible exact SinceOf.refl _) | (with_reducible assumption) | (with_reducible refine SinceOf.alloc ?_ _) | (with_reducible refine SinceOf.drew ?_) | (with_reducible refine SinceOf.drewN ?_ _) | (with_reducible refine SinceOf.later ?_ _) | (with_reducible refine SinceOf.further ?_ _) | (with_reducible refine SinceOf.setCell ?_ (by first | exact Nat.le_refl _ | (simp; done) | omega | (simp; omega)) _))))⟩
end Go.Proofs.YtkpnffokjpgalaaGreat
