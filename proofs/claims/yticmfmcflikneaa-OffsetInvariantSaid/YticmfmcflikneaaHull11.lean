/- Layer 10: the reference's collinear. -/
import Derived.Test.YticmfmcflikneaaHull9
import Derived.Test.YticmfmcflikneaaHullP7
import Derived.BigQuiet
import Derived.Test.YticmfmcflikneaaHull13
namespace Go.Proofs.Yticmfmcflikneaa
open Go.RowKit Go.Sort
set_option linter.unusedVariables false
attribute [local go_sem ↓] Go.wp_at_zero Go.wp_at_succ

def LineTo (l : List Pt) (a : Pt) (i k : Nat) : Prop := ∀ m, m < k → at0 l i = a ∨ det a (at0 l i) (at0 l m) = 0
theorem line_flat {l : List Pt} (h : 0 < l.length) (hl : ∀ i, i < l.length → LineTo l (at0 l 0) i l.length) : Flat l := by
  refine fun u hu v hv w hw => line0_all (a := at0 l 0) (l := l) ?_ u hu v hv w hw
  intro u hu v hv hne
  obtain ⟨i, hi, rfl⟩ := List.getElem_of_mem hu
  obtain ⟨k, hk, rfl⟩ := List.getElem_of_mem hv
  have := hl i hi k hk
  rw [at0_eq hi, at0_eq hk] at this
  exact this.resolve_left hne
theorem flat_line {l : List Pt} (hf : Flat l) {i k : Nat} (hi : i < l.length) (hk : k < l.length) : det (at0 l 0) (at0 l i) (at0 l k) = 0 :=
  hf _ (at0_mem (by omega)) _ (at0_mem hi) _ (at0_mem hk)
set_option maxRecDepth 100000 in
set_option maxHeartbeats 8000000 in
theorem collinear_any (A : Option Addr) (c : Nat) (l : List (Int × Int)) (w : World) (h : IsVecs w A c l) (hf : l.any farB = false) (hn : l.length ≤ 400) :
    Calls Try.prog 72 #[.slice A l.length c] w fun e w' => ∃ b : Bool, e = .returned (.bool b) ∧ (b = true ↔ Flat l) ∧ LaterOf w w' := by
  have H := Lib.hid (And.intro h hf)
  clear h hf
  go_enter Try.func72, Try.ntmps72
  go_wp2_with fail
  go_loopg [3] l.length (fun gas s1 wr => ∃ i : Nat, i ≤ l.length ∧ l.length - i ≤ gas ∧ s1 = .int .i64 i ∧ LaterOf w wr ∧ ∀ j, j < i → LineTo l (at0 l 0) j l.length)
  case atStart => exact ⟨0, by omega, by omega, rfl, by (repeat (first | (with_reducible exact LaterOf.refl _) | (with_reducible refine LaterOf.alloc ?_ _) | (with_reducible refine LaterOf.drew ?_) | (with_reducible refine LaterOf.drewN ?_ _) | (with_reducible refine LaterOf.later ?_ _) | (with_reducible refine LaterOf.setCell ?_ (by first | exact Nat.le_refl _ | (simp; done) | omega | (simp; omega)) _))), fun j hj => by omega⟩
  case round =>
    obtain ⟨i, hi, hgas, rfl, ⟨z, rfl⟩, hall⟩ := hrel
    by_cases hlt : i < l.length
    · have HA := Lib.hid hall
      clear hall
      go_wp2_with fail
      go_loopg [4] l.length (fun gas2 s2 wr => ∃ k : Nat, k ≤ l.length ∧ l.length - k ≤ gas2 ∧ s2 = .int .i64 k ∧ LaterOf z.wd wr ∧ LineTo l (at0 l 0) i k)
      case atStart => exact ⟨0, by omega, by omega, rfl, by (repeat (first | (with_reducible exact LaterOf.refl _) | (with_reducible refine LaterOf.alloc ?_ _) | (with_reducible refine LaterOf.drew ?_) | (with_reducible refine LaterOf.drewN ?_ _) | (with_reducible refine LaterOf.later ?_ _) | (with_reducible refine LaterOf.setCell ?_ (by first | exact Nat.le_refl _ | (simp; done) | omega | (simp; omega)) _))), fun m hm => by omega⟩
      case round =>
        obtain ⟨k, hk, hgas2, rfl, ⟨z2, rfl⟩, hin⟩ := hrel
        by_cases hkl : k < l.length
        · have hr0 := H.out.1.of (w' := z.wd) (by (repeat (first | (with_reducible exact SinceOf.refl _) | (with_reducible assumption) | (with_reducible refine SinceOf.alloc ?_ _) | (with_reducible refine SinceOf.drew ?_) | (with_reducible refine SinceOf.drewN ?_ _) | (with_reducible refine SinceOf.later ?_ _) | (with_reducible refine SinceOf.further ?_ _) | (with_reducible refine SinceOf.setCell ?_ (by first | exact Nat.le_refl _ | (simp; done) | omega | (simp; omega)) _))))
          obtain ⟨g, off, rfl, hr⟩ := hr0.at_ (by omega)
          have hO := hr.there
          have h00 : 0 < l.length := by omega
          have a0 := hr.v0 0 h00
          have a1 := hr.v1 0 h00
          have p0 := hr.v0 i hlt
          have p1 := hr.v1 i hlt
          have q0 := hr.v0 k hkl
          have q1 := hr.v1 k hkl
          simp only [Nat.zero_mul, Nat.add_zero] at a0 a1
          have fa : farB l[0] = false := by simpa using List.any_eq_false.1 H.out.2 _ (List.getElem_mem h00)
          have fp : farB l[i] = false := by simpa using List.any_eq_false.1 H.out.2 _ (List.getElem_mem hlt)
          have fq : farB l[k] = false := by simpa using List.any_eq_false.1 H.out.2 _ (List.getElem_mem hkl)
          have ht := turn_det fa fp fq
          have T := refTurn_any l[0].1 l[0].2 l[i].1 l[i].2 l[k].1 l[k].2
          rw [ht] at T
          have hz0 := cmpi_eq0 (det l[0] l[i] l[k])
          rw [← at0_eq h00, ← at0_eq hlt, ← at0_eq hkl] at *
          have hfl := fun hf => flat_line hf hlt hkl
          generalize hqe : at0 l k = q at *
          generalize hpe : at0 l i = p at *
          generalize hae : at0 l 0 = a at *
          generalize hd : det a p q = d at *
          obtain ⟨ax, ay⟩ := a
          obtain ⟨px, py⟩ := p
          obtain ⟨qx, qy⟩ := q
          simp only at a0 a1 p0 p1 q0 q1 T
          have HB := Lib.hid (And.intro hin (And.intro hpe (And.intro hae (And.intro hd (And.intro hfl hqe)))))
          clear hin hpe hae hd hfl hqe hr hr0 fa fp fq ht
          generalize cmpi d 0 = t at *
          by_cases he : eqv px py ax ay = true
          · obtain ⟨rfl, rfl⟩ := eqv_iff.1 he
            clear he
            go_wp2_with fail
            refine region_later (by kernel_rfl) (by kernel_rfl) ?_
            repeat (go_big_quiet_step (fail))
            refine wpQuiet_nil ?_
            rintro _ ⟨z4, rfl⟩
            go_wp2_with fail
            go_roundg (l.length - (k + 1))
            case measure => omega
            case rel => exact ⟨k + 1, hkl, Nat.le_refl _, by go_num, by (repeat (first | (with_reducible exact LaterOf.refl _) | (with_reducible refine LaterOf.alloc ?_ _) | (with_reducible refine LaterOf.drew ?_) | (with_reducible refine LaterOf.drewN ?_ _) | (with_reducible refine LaterOf.later ?_ _) | (with_reducible refine LaterOf.setCell ?_ (by first | exact Nat.le_refl _ | (simp; done) | omega | (simp; omega)) _))), fun m hm => .inl HB.out.2.1⟩
          · have hne : eqv px py ax ay = false := by simpa using he
            have HE := Lib.hid he
            clear he
            by_cases h0 : d = 0
            · have e3 : (t != 0) = false := by simp; exact hz0.2 h0
              clear hz0
              go_wp2_with fail
              refine region_later (by kernel_rfl) (by kernel_rfl) ?_
              repeat (go_big_quiet_step ((with_reducible refine Gives.later (T _))))
              refine wpQuiet_nil ?_
              rintro _ ⟨z4, rfl⟩
              go_wp2_with fail
              go_roundg (l.length - (k + 1))
              case measure => omega
              case rel =>
                refine ⟨k + 1, hkl, Nat.le_refl _, by go_num, by (repeat (first | (with_reducible exact LaterOf.refl _) | (with_reducible refine LaterOf.alloc ?_ _) | (with_reducible refine LaterOf.drew ?_) | (with_reducible refine LaterOf.drewN ?_ _) | (with_reducible refine LaterOf.later ?_ _) | (with_reducible refine LaterOf.setCell ?_ (by first | exact Nat.le_refl _ | (simp; done) | omega | (simp; omega)) _))), fun m hm => ?_⟩
                by_cases e : m = k
                · subst e
                  refine .inr ?_
                  rw [HB.out.2.1, HB.out.2.2.2.2.2]
                  exact HB.out.2.2.2.1.trans h0
                · exact HB.out.1 m (by omega)
            · have e3 : (t != 0) = true := by simp; exact fun h => h0 (hz0.1 h)
              clear hz0
              go_wp2_with fail
              refine region_later (by kernel_rfl) (by kernel_rfl) ?_
              repeat (go_big_quiet_step ((with_reducible refine Gives.later (T _))))
              refine wpQuiet_nil ?_
              rintro _ ⟨z4, rfl⟩
              go_wp2_with fail
              go_returns
              exact ⟨false, rfl, ⟨(fun h => by cases h), (fun hf => absurd (HB.out.2.2.2.2.1 hf) h0)⟩, by (repeat (first | (with_reducible exact LaterOf.refl _) | (with_reducible refine LaterOf.alloc ?_ _) | (with_reducible refine LaterOf.drew ?_) | (with_reducible refine LaterOf.drewN ?_ _) | (with_reducible refine LaterOf.later ?_ _) | (with_reducible refine LaterOf.setCell ?_ (by first | exact Nat.le_refl _ | (simp; done) | omega | (simp; omega)) _)))⟩
        · have hkl2 : k = l.length := by omega
          have HI := Lib.hid hin
          clear hin
          go_wp2_with fail
          go_roundg (l.length - (i + 1))
          case measure => omega
          case rel =>
            refine ⟨i + 1, hlt, Nat.le_refl _, by go_num, by (repeat (first | (with_reducible exact LaterOf.refl _) | (with_reducible refine LaterOf.alloc ?_ _) | (with_reducible refine LaterOf.drew ?_) | (with_reducible refine LaterOf.drewN ?_ _) | (with_reducible refine LaterOf.later ?_ _) | (with_reducible refine LaterOf.setCell ?_ (by first | exact Nat.le_refl _ | (simp; done) | omega | (simp; omega)) _))), fun j hj => ?_⟩
            by_cases e : j = i
            · subst e; rw [← hkl2]; exact HI.out
            · exact HA.out j (by omega)
    · have hil : i = l.length := by omega
      subst hil
      have HA := Lib.hid hall
      clear hall
      go_wp2_with fail
      go_returns
      refine ⟨true, rfl, ⟨fun _ => ?_, fun _ => rfl⟩, by (repeat (first | (with_reducible exact LaterOf.refl _) | (with_reducible refine LaterOf.alloc ?_ _) | (with_reducible refine LaterOf.drew ?_) | (with_reducible refine LaterOf.drewN ?_ _) | (with_reducible refine LaterOf.later ?_ _) | (with_reducible refine LaterOf.setCell ?_ (by first | exact Nat.le_refl _ | (simp; done) | omega | (simp; omega)) _)))⟩
      by_cases h0 : l.length = 0
      · have : l = [] := List.length_eq_zero_iff.1 h0
        subst this
        exact fun u hu => by cases hu
      · exact line_flat (by omega) HA.out
end Go.Proofs.Yticmfmcflikneaa
/- Layer 10: the reference's next. -/
namespace Go.Proofs.Yticmfmcflikneaa
open Go.RowKit Go.Sort
set_option linter.unusedVariables false
set_option linter.unusedSimpArgs false
attribute [local go_sem ↓] Go.wp_at_zero Go.wp_at_succ

theorem dot_exact {a b c d : Int} (ha : -16000 ≤ a ∧ a ≤ 16000) (hb : -16000 ≤ b ∧ b ≤ 16000) (hc : -16000 ≤ c ∧ c ≤ 16000) (hd : -16000 ≤ d ∧ d ≤ 16000) : dotI a b c d = a * c + b * d := by
  have h1 := mul_bound a c 16000 16000 (by omega) (by omega) ha hc
  have h2 := mul_bound b d 16000 16000 (by omega) (by omega) hb hd
  unfold dotI
  rw [wmul_in (by omega), wmul_in (by omega), wadd_in (by omega)]
theorem farB_in {x y : Int} (h : farB (x, y) = false) : (-8000 ≤ x ∧ x ≤ 8000) ∧ (-8000 ≤ y ∧ y ≤ 8000) :=
  far_bounds (l := [(x, y)]) (by simp [h]) (x, y) (by simp)
theorem nrm_exact {px py x y : Int} (hp : farB (px, py) = false) (hx : farB (x, y) = false) : dotI (wsub x px) (wsub y py) (wsub x px) (wsub y py) = nrm (px, py) (x, y) := by
  have h1 := farB_in hp
  have h2 := farB_in hx
  rw [wsub_in (by omega), wsub_in (by omega), dot_exact (by omega) (by omega) (by omega) (by omega)]
  rfl
structure NextI (w : World) (p q : Pt) (W : World) : Prop where
  p0 : W.cell? ⟨w.heap.size, 0, none⟩ = some (.int .i64 p.1)
  p1 : W.cell? ⟨w.heap.size, 1, none⟩ = some (.int .i64 p.2)
  r : W.heap[w.heap.size + 1]? = some (.cells #[.int .i64 0, .int .i64 0] 32)
  q0 : W.cell? ⟨w.heap.size + 2, 0, none⟩ = some (.int .i64 q.1)
  q1 : W.cell? ⟨w.heap.size + 2, 1, none⟩ = some (.int .i64 q.2)
  f0 : W.frozen? ⟨w.heap.size + 2, 0, none⟩ = false
  f1 : W.frozen? ⟨w.heap.size + 2, 1, none⟩ = false
  s : SinceOf w W
  lt : w.heap.size + 3 ≤ W.heap.size
  far : farB q = false
theorem NextI.of {w W W' : World} {p q : Pt} (h : NextI w p q W) (hs : SinceOf W W') : NextI w p q W' := by
  obtain ⟨z, rfl⟩ := hs
  have hlt := h.lt
  have b0 := z.below.block w.heap.size (by omega)
  have b1 := z.below.block (w.heap.size + 1) (by omega)
  have b2 := z.below.block (w.heap.size + 2) (by omega)
  have hz := z.size
  exact ⟨(World.cell?_of_block b0).trans h.p0, (World.cell?_of_block b0).trans h.p1, b1.trans h.r, (World.cell?_of_block b2).trans h.q0, (World.cell?_of_block b2).trans h.q1, (World.frozen?_of_block b2).trans h.f0, (World.frozen?_of_block b2).trans h.f1, h.s.further z, by omega, h.far⟩
theorem NextI.set {w W : World} {p q : Pt} (h : NextI w p q W) (x y : Int) (hf : farB (x, y) = false) : NextI w p (x, y) ((W.setCell ⟨w.heap.size + 2, 0, none⟩ (.int .i64 x)).setCell ⟨w.heap.size + 2, 1, none⟩ (.int .i64 y)) := by
  obtain ⟨p0, p1, r, q0, q1, f0, f1, s, lt, far⟩ := h
  refine ⟨by simp [go_sem, *], by simp [go_sem, *], ?_, by simp [go_sem, *], by simp [go_sem, *], by simp [go_sem, *], by simp [go_sem, *], (s.setCell (by simp) _).setCell (by simp) _, by simpa using lt, hf⟩
  rw [Below.heap_setCell _ _ _ _ (by simp), Below.heap_setCell _ _ _ _ (by simp)]
  exact r
set_option maxRecDepth 100000 in
set_option maxHeartbeats 16000000 in
theorem next_any (A : Option Addr) (c : Nat) (l : List (Int × Int)) (px py : Int) (w : World) (h : IsVecs w A c l) (hf : l.any farB = false) (hp : farB (px, py) = false) (hn : l.length ≤ 400) :
    Calls Try.prog 73 #[.slice A l.length c, vv px py] w fun e w' => e = .returned (vv (nextC l (px, py)).1 (nextC l (px, py)).2) ∧ farB (nextC l (px, py)) = false ∧ SinceOf w w' := by
  have H := Lib.hid (And.intro h hf)
  clear h hf
  go_enter Try.func73, Try.ntmps73
  go_wp2_with fail
  go_loopg [6] l.length (fun gas s1 wr => ∃ (i : Nat) (q : Pt), i ≤ l.length ∧ l.length - i ≤ gas ∧ s1 = .int .i64 i ∧ NextI w (px, py) q wr ∧ nextC l (px, py) = (l.drop i).foldl (stepN (px, py)) q)
  case atStart => 
    refine ⟨0, (px, py), by omega, by omega, rfl, ⟨by simp [go_sem], by simp [go_sem], ?_, by simp [go_sem], by simp [go_sem], by simp [go_sem], by simp [go_sem], by (repeat (first | (with_reducible exact SinceOf.refl _) | (with_reducible assumption) | (with_reducible refine SinceOf.alloc ?_ _) | (with_reducible refine SinceOf.drew ?_) | (with_reducible refine SinceOf.drewN ?_ _) | (with_reducible refine SinceOf.later ?_ _) | (with_reducible refine SinceOf.further ?_ _) | (with_reducible refine SinceOf.setCell ?_ (by first | exact Nat.le_refl _ | (simp; done) | omega | (simp; omega)) _))), by simp, hp⟩, rfl⟩
    rw [Below.heap_alloc _ _ _ (by simp)]
    have q := heap_alloc_new (w.alloc (.cells #[.int .i64 px, .int .i64 py] 32)) (.cells #[.int .i64 0, .int .i64 0] 32)
    simpa using q
  case round =>
    obtain ⟨i, q, hi, hgas, rfl, hI, hall⟩ := hrel
    obtain ⟨v, rfl⟩ := hI.s
    have hcp0 := hI.p0
    have hcp1 := hI.p1
    have hcq0 := hI.q0
    have hcq1 := hI.q1
    have hcf0 := hI.f0
    have hcf1 := hI.f1
    have hclt := hI.lt
    have hOP : Nonempty (Old v.wd w.heap.size) := ⟨⟨by omega⟩⟩
    have hOQ : Nonempty (Old v.wd (w.heap.size + 2)) := ⟨⟨by omega⟩⟩
    by_cases hlt : i < l.length
    · rw [List.drop_eq_getElem_cons hlt, List.foldl_cons] at hall
      have fx : farB l[i] = false := by simpa using List.any_eq_false.1 H.out.2 _ (List.getElem_mem hlt)
      have hr0 := H.out.1.of (w' := v.wd) (by (repeat (first | (with_reducible exact SinceOf.refl _) | (with_reducible assumption) | (with_reducible refine SinceOf.alloc ?_ _) | (with_reducible refine SinceOf.drew ?_) | (with_reducible refine SinceOf.drewN ?_ _) | (with_reducible refine SinceOf.later ?_ _) | (with_reducible refine SinceOf.further ?_ _) | (with_reducible refine SinceOf.setCell ?_ (by first | exact Nat.le_refl _ | (simp; done) | omega | (simp; omega)) _))))
      obtain ⟨g, off, rfl, hr⟩ := hr0.at_ (by omega)
      have hO := hr.there
      have x0 := hr.v0 i hlt
      have x1 := hr.v1 i hlt
      generalize l[i] = x at *
      obtain ⟨xx, xy⟩ := x
      obtain ⟨qx, qy⟩ := q
      have fq := hI.far
      have HI := Lib.hid (And.intro hI (And.intro hall (And.intro fx (And.intro hp fq))))
      simp only at hcp0 hcp1 hcq0 hcq1 x0 x1
      clear hI hall fq hr hr0
      by_cases he : eqv xx xy px py = true
      · obtain ⟨rfl, rfl⟩ := eqv_iff.1 he
        clear he
        go_wp2_with fail
        refine region_later (by kernel_rfl) (by kernel_rfl) ?_
        repeat (go_big_quiet_step (fail))
        refine wpQuiet_nil ?_
        rintro _ ⟨z4, rfl⟩
        go_wp2_with fail
        go_roundg (l.length - (i + 1))
        case measure => omega
        case rel => exact ⟨i + 1, (qx, qy), hlt, Nat.le_refl _, by go_num, HI.out.1.of (by (repeat (first | (with_reducible exact SinceOf.refl _) | (with_reducible assumption) | (with_reducible refine SinceOf.alloc ?_ _) | (with_reducible refine SinceOf.drew ?_) | (with_reducible refine SinceOf.drewN ?_ _) | (with_reducible refine SinceOf.later ?_ _) | (with_reducible refine SinceOf.further ?_ _) | (with_reducible refine SinceOf.setCell ?_ (by first | exact Nat.le_refl _ | (simp; done) | omega | (simp; omega)) _)))), by rw [HI.out.2.1]; unfold stepN; rw [if_pos rfl]⟩
      · have hne : eqv xx xy px py = false := by simpa using he
        have hxp : (xx, xy) ≠ (px, py) := fun e => he (by injection e with e1 e2; rw [e1, e2, eqv_self])
        clear he
        by_cases hq : eqv qx qy px py = true
        · obtain ⟨rfl, rfl⟩ := eqv_iff.1 hq
          clear hq
          go_wp2_with fail
          refine region_later (by kernel_rfl) (by kernel_rfl) ?_
          repeat (go_big_quiet_step (fail))
          refine wpQuiet_nil ?_
          rintro _ ⟨z4, rfl⟩
          go_wp2_with fail
          go_roundg (l.length - (i + 1))
          case measure => omega
          case rel => exact ⟨i + 1, (xx, xy), hlt, Nat.le_refl _, by go_num, (HI.out.1.of (W' := z4.wd) (by (repeat (first | (with_reducible exact SinceOf.refl _) | (with_reducible assumption) | (with_reducible refine SinceOf.alloc ?_ _) | (with_reducible refine SinceOf.drew ?_) | (with_reducible refine SinceOf.drewN ?_ _) | (with_reducible refine SinceOf.later ?_ _) | (with_reducible refine SinceOf.further ?_ _) | (with_reducible refine SinceOf.setCell ?_ (by first | exact Nat.le_refl _ | (simp; done) | omega | (simp; omega)) _))))).set xx xy HI.out.2.2.1, by rw [HI.out.2.1]; unfold stepN; rw [if_neg hxp, if_pos rfl]⟩
        · have hqne : eqv qx qy px py = false := by simpa using hq
          have hqp : (qx, qy) ≠ (px, py) := fun e => hq (by injection e with e1 e2; rw [e1, e2, eqv_self])
          clear hq
          have ht := turn_det HI.out.2.2.2.1 HI.out.2.2.2.2 HI.out.2.2.1
          simp only at ht
          have T := refTurn_any px py qx qy xx xy
          rw [ht] at T
          have t1 := cmpi_lt (det (px, py) (qx, qy) (xx, xy))
          have t2 := cmpi_eq0 (det (px, py) (qx, qy) (xx, xy))
          generalize cmpi (det (px, py) (qx, qy) (xx, xy)) 0 = t at *
          go_wp2_with fail
          refine region_later (by kernel_rfl) (by kernel_rfl) ?_
          repeat (go_big_quiet_step (fail))
          refine wpQuiet_nil ?_
          rintro _ ⟨z4, rfl⟩
          go_wp2_with fail
          refine region_later (by kernel_rfl) (by kernel_rfl) ?_
          repeat (go_big_quiet_step ((with_reducible refine Gives.later (T _))))
          refine wpQuiet_nil ?_
          rintro _ ⟨z5, rfl⟩
          have S1 := refSub_any qx qy px py
          have S2 := refSub_any xx xy px py
          have D1 := refDot_any (wsub qx px) (wsub qy py) (wsub qx px) (wsub qy py)
          have D2 := refDot_any (wsub xx px) (wsub xy py) (wsub xx px) (wsub xy py)
          rw [nrm_exact HI.out.2.2.2.1 HI.out.2.2.2.2] at D1
          rw [nrm_exact HI.out.2.2.2.1 HI.out.2.2.1] at D2
          have hst : stepN (px, py) (qx, qy) (xx, xy) = if det (px, py) (qx, qy) (xx, xy) < 0 ∨ (det (px, py) (qx, qy) (xx, xy) = 0 ∧ nrm (px, py) (qx, qy) < nrm (px, py) (xx, xy)) then (xx, xy) else (qx, qy) := by
            unfold stepN; rw [if_neg hxp, if_neg hqp]
          generalize nrm (px, py) (qx, qy) = nq at *
          generalize nrm (px, py) (xx, xy) = nx at *
          generalize wsub qx px = ax at *
          generalize wsub qy py = ay at *
          generalize wsub xx px = bx at *
          generalize wsub xy py = by_ at *
          generalize det (px, py) (qx, qy) (xx, xy) = d at *
          have HS := Lib.hid (And.intro hst (And.intro t1 t2))
          clear hst t1 t2 hxp hqp ht T
          go_wp2_with fail
          go_cut [8, 9] (fun s8 s9 wx => ∃ b8 b9 : Nat, s8 = .pointer (some ⟨b8, 0, none⟩) ∧ s9 = .pointer (some ⟨b9, 0, none⟩) ∧ wx.cell? ⟨b8, 0, none⟩ = some (.int .i64 ax) ∧ wx.cell? ⟨b8, 1, none⟩ = some (.int .i64 ay) ∧ wx.cell? ⟨b9, 0, none⟩ = some (.int .i64 bx) ∧ wx.cell? ⟨b9, 1, none⟩ = some (.int .i64 by_) ∧ b8 < wx.heap.size ∧ b9 < wx.heap.size ∧ SinceOf z5.wd wx)
          case first =>
            have mk : True := trivial
            go_region_held3 (fun w' => w'.cell? ⟨w.heap.size, 0, none⟩ = some (.int .i64 px) ∧ w'.cell? ⟨w.heap.size, 1, none⟩ = some (.int .i64 py) ∧ w'.cell? ⟨w.heap.size + 1 + 1, 0, none⟩ = some (.int .i64 qx) ∧ w'.cell? ⟨w.heap.size + 1 + 1, 1, none⟩ = some (.int .i64 qy) ∧ w'.cell? ⟨g, off + i * 2, none⟩ = some (.int .i64 xx) ∧ w'.cell? ⟨g, off + i * 2 + 1, none⟩ = some (.int .i64 xy)) ((simp [go_sem, *]))
              (first
                | (clear mk; go_at_call 32; refine (S1 _).calls.mono ?_; rintro e _ ⟨rfl, y1, rfl⟩; (try (have ny1y2 : ¬ y2.wd.heap.size = y1.wd.heap.size := by (have q := y1.size; (try simp only [World.size_alloc, World.size_setCell, World.size_drew] at q); (try have q2 := y2.size); (try simp only [World.size_alloc, World.size_setCell, World.size_drew] at q2); omega))); (try (have my1y2 : ¬ y1.wd.heap.size = y2.wd.heap.size := by (have q := y1.size; (try simp only [World.size_alloc, World.size_setCell, World.size_drew] at q); (try have q2 := y2.size); (try simp only [World.size_alloc, World.size_setCell, World.size_drew] at q2); omega))); (try (have ny1z5 : ¬ z5.wd.heap.size = y1.wd.heap.size := by (have q := y1.size; (try simp only [World.size_alloc, World.size_setCell, World.size_drew] at q); (try have q2 := y2.size); (try simp only [World.size_alloc, World.size_setCell, World.size_drew] at q2); omega))); (try (have my1z5 : ¬ y1.wd.heap.size = z5.wd.heap.size := by (have q := y1.size; (try simp only [World.size_alloc, World.size_setCell, World.size_drew] at q); (try have q2 := y2.size); (try simp only [World.size_alloc, World.size_setCell, World.size_drew] at q2); omega))); (try dsimp only))
                | (go_at_call 32; refine (S2 _).calls.mono ?_; rintro e _ ⟨rfl, y2, rfl⟩; (try (have ny2y1 : ¬ y1.wd.heap.size = y2.wd.heap.size := by (have q := y2.size; (try simp only [World.size_alloc, World.size_setCell, World.size_drew] at q); (try have q2 := y1.size); (try simp only [World.size_alloc, World.size_setCell, World.size_drew] at q2); omega))); (try (have my2y1 : ¬ y2.wd.heap.size = y1.wd.heap.size := by (have q := y2.size; (try simp only [World.size_alloc, World.size_setCell, World.size_drew] at q); (try have q2 := y1.size); (try simp only [World.size_alloc, World.size_setCell, World.size_drew] at q2); omega))); (try (have ny2z5 : ¬ z5.wd.heap.size = y2.wd.heap.size := by (have q := y2.size; (try simp only [World.size_alloc, World.size_setCell, World.size_drew] at q); (try have q2 := y1.size); (try simp only [World.size_alloc, World.size_setCell, World.size_drew] at q2); omega))); (try (have my2z5 : ¬ y2.wd.heap.size = z5.wd.heap.size := by (have q := y2.size; (try simp only [World.size_alloc, World.size_setCell, World.size_drew] at q); (try have q2 := y1.size); (try simp only [World.size_alloc, World.size_setCell, World.size_drew] at q2); omega))); (try dsimp only)))
            all_goals
              go_wp2_with fail
              go_meet
              have e1 := y1.size
              have e2 := y2.size
              (try simp only [World.size_alloc, World.size_setCell, World.size_drew] at e1)
              (try simp only [World.size_alloc, World.size_setCell, World.size_drew] at e2)
              refine ⟨_, _, rfl, rfl, ?_, ?_, ?_, ?_, ?_, ?_, by (repeat (first | (with_reducible exact SinceOf.refl _) | (with_reducible assumption) | (with_reducible refine SinceOf.alloc ?_ _) | (with_reducible refine SinceOf.drew ?_) | (with_reducible refine SinceOf.drewN ?_ _) | (with_reducible refine SinceOf.later ?_ _) | (with_reducible refine SinceOf.further ?_ _) | (with_reducible refine SinceOf.setCell ?_ (by first | exact Nat.le_refl _ | (simp; done) | omega | (simp; omega)) _)))⟩
              · simp [go_sem, *]
              · simp [go_sem, *]
              · simp [go_sem, *]
              · simp [go_sem, *]
              · simp only [World.size_alloc, World.size_setCell, World.size_drew]; omega
              · simp only [World.size_alloc, World.size_setCell, World.size_drew]; omega
          case rest =>
            obtain ⟨b8, b9, rfl, rfl, k80, k81, k90, k91, hb8, hb9, ⟨z6, rfl⟩⟩ := hcut
            have hO8 : Nonempty (Old z6.wd b8) := ⟨⟨hb8⟩⟩
            have hO9 : Nonempty (Old z6.wd b9) := ⟨⟨hb9⟩⟩
            clear S1 S2
            rcases Int.lt_trichotomy t 0 with h | h | h
            · have g1 : decide (t < 0) = true := decide_eq_true h
              go_wp2_with fail
              refine region_later (by kernel_rfl) (by kernel_rfl) ?_
              repeat (go_big_quiet_step ((first | with_reducible refine Gives.later (D1 _) | with_reducible refine Gives.later (D2 _))))
              refine wpQuiet_nil ?_
              rintro _ ⟨z7, rfl⟩
              clear D1 D2
              go_wp2_with fail
              go_roundg (l.length - (i + 1))
              case measure => omega
              case rel => exact ⟨i + 1, (xx, xy), hlt, Nat.le_refl _, by go_num, (HI.out.1.of (W' := z7.wd) (by (repeat (first | (with_reducible exact SinceOf.refl _) | (with_reducible assumption) | (with_reducible refine SinceOf.alloc ?_ _) | (with_reducible refine SinceOf.drew ?_) | (with_reducible refine SinceOf.drewN ?_ _) | (with_reducible refine SinceOf.later ?_ _) | (with_reducible refine SinceOf.further ?_ _) | (with_reducible refine SinceOf.setCell ?_ (by first | exact Nat.le_refl _ | (simp; done) | omega | (simp; omega)) _))))).set xx xy HI.out.2.2.1, by rw [HI.out.2.1, HS.out.1, if_pos (.inl (HS.out.2.1.1 h))]⟩
            · by_cases hl : nq < nx
              · have g1 : decide (nq < nx) = true := decide_eq_true hl
                have hd := HS.out.2.2.1 h
                subst h
                go_wp2_with fail
                refine region_later (by kernel_rfl) (by kernel_rfl) ?_
                repeat (go_big_quiet_step ((first | with_reducible refine Gives.later (D1 _) | with_reducible refine Gives.later (D2 _))))
                refine wpQuiet_nil ?_
                rintro _ ⟨z7, rfl⟩
                clear D1 D2
                go_wp2_with fail
                go_roundg (l.length - (i + 1))
                case measure => omega
                case rel => exact ⟨i + 1, (xx, xy), hlt, Nat.le_refl _, by go_num, (HI.out.1.of (W' := z7.wd) (by (repeat (first | (with_reducible exact SinceOf.refl _) | (with_reducible assumption) | (with_reducible refine SinceOf.alloc ?_ _) | (with_reducible refine SinceOf.drew ?_) | (with_reducible refine SinceOf.drewN ?_ _) | (with_reducible refine SinceOf.later ?_ _) | (with_reducible refine SinceOf.further ?_ _) | (with_reducible refine SinceOf.setCell ?_ (by first | exact Nat.le_refl _ | (simp; done) | omega | (simp; omega)) _))))).set xx xy HI.out.2.2.1, by rw [HI.out.2.1, HS.out.1, if_pos (.inr ⟨hd, hl⟩)]⟩
              · have g1 : decide (nq < nx) = false := decide_eq_false hl
                have hd := HS.out.2.2.1 h
                subst h
                go_wp2_with fail
                refine region_later (by kernel_rfl) (by kernel_rfl) ?_
                repeat (go_big_quiet_step ((first | with_reducible refine Gives.later (D1 _) | with_reducible refine Gives.later (D2 _))))
                refine wpQuiet_nil ?_
                rintro _ ⟨z7, rfl⟩
                clear D1 D2
                go_wp2_with fail
                go_roundg (l.length - (i + 1))
                case measure => omega
                case rel => exact ⟨i + 1, (qx, qy), hlt, Nat.le_refl _, by go_num, HI.out.1.of (by (repeat (first | (with_reducible exact SinceOf.refl _) | (with_reducible assumption) | (with_reducible refine SinceOf.alloc ?_ _) | (with_reducible refine SinceOf.drew ?_) | (with_reducible refine SinceOf.drewN ?_ _) | (with_reducible refine SinceOf.later ?_ _) | (with_reducible refine SinceOf.further ?_ _) | (with_reducible refine SinceOf.setCell ?_ (by first | exact Nat.le_refl _ | (simp; done) | omega | (simp; omega)) _)))), by rw [HI.out.2.1, HS.out.1, if_neg (fun q => by omega)]⟩
            · have g1 : decide (t < 0) = false := decide_eq_false (by omega)
              have g2 : (t == 0) = false := by simp; omega
              have hd1 : ¬ d < 0 := fun q => by have := HS.out.2.1.2 q; omega
              have hd2 : ¬ d = 0 := fun q => by have := HS.out.2.2.2 q; omega
              go_wp2_with fail
              refine region_later (by kernel_rfl) (by kernel_rfl) ?_
              repeat (go_big_quiet_step ((first | with_reducible refine Gives.later (D1 _) | with_reducible refine Gives.later (D2 _))))
              refine wpQuiet_nil ?_
              rintro _ ⟨z7, rfl⟩
              clear D1 D2
              go_wp2_with fail
              go_roundg (l.length - (i + 1))
              case measure => omega
              case rel => exact ⟨i + 1, (qx, qy), hlt, Nat.le_refl _, by go_num, HI.out.1.of (by (repeat (first | (with_reducible exact SinceOf.refl _) | (with_reducible assumption) | (with_reducible refine SinceOf.alloc ?_ _) | (with_reducible refine SinceOf.drew ?_) | (with_reducible refine SinceOf.drewN ?_ _) | (with_reducible refine SinceOf.later ?_ _) | (with_reducible refine SinceOf.further ?_ _) | (with_reducible refine SinceOf.setCell ?_ (by first | exact Nat.le_refl _ | (simp; done) | omega | (simp; omega)) _)))), by rw [HI.out.2.1, HS.out.1, if_neg (fun q => by omega)]⟩
    · have hil : i = l.length := by omega
      subst hil
      rw [List.drop_length] at hall
      obtain ⟨qx, qy⟩ := q
      have R : VarV v.wd (w.heap.size + 1) (0, 0) := ⟨by simp [World.cell?, hI.r], by simp [World.cell?, hI.r], by simp [World.frozen?, hI.r], by simp [World.frozen?, hI.r], by omega⟩
      have r0 := R.c0
      have r1 := R.c1
      have f0 := R.f0
      have f1 := R.f1
      have hO1 : Nonempty (Old v.wd (w.heap.size + 1)) := ⟨⟨by omega⟩⟩
      have P := R.put qx qy
      have p0 := P.c0
      have p1 := P.c1
      have p2 : (v.wd.setCell ⟨w.heap.size + 1, 0, none⟩ (.int .i64 qx)).cell? ⟨w.heap.size + 1, 0, none⟩ = some (.int .i64 qx) := World.cell?_setCell_same _ _ _ r0
      simp only at p0 p1 hcq0 hcq1 r0 r1
      have HA := Lib.hid (And.intro hall hI.far)
      clear hall hI P R
      go_wp2_with fail
      (try simp only [Exit.inBlock, Exit.then])
      refine bodyPost_ret (by simp [results, Try.results73, go_sem, *]; try rfl) rfl ?_
      exact ⟨by rw [HA.out.1]; rfl, by rw [HA.out.1]; exact HA.out.2, SinceOf.setCell (SinceOf.setCell (by (repeat (first | (with_reducible exact SinceOf.refl _) | (with_reducible assumption) | (with_reducible refine SinceOf.alloc ?_ _) | (with_reducible refine SinceOf.drew ?_) | (with_reducible refine SinceOf.drewN ?_ _) | (with_reducible refine SinceOf.later ?_ _) | (with_reducible refine SinceOf.further ?_ _) | (with_reducible refine SinceOf.setCell ?_ (by first | exact Nat.le_refl _ | (simp; done) | omega | (simp; omega)) _)))) (by simp) _) (by simp) _⟩
end Go.Proofs.Yticmfmcflikneaa
