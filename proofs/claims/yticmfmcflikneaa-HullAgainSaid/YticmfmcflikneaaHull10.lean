/- Layer 10: the reference's collinear. -/
import Derived.Test.YticmfmcflikneaaHull9
import Derived.Test.YticmfmcflikneaaHullP7
import Derived.BigQuiet
namespace Go.Proofs.Yticmfmcflikneaa
open Go.RowKit Go.Sort
set_option linter.unusedVariables false
attribute [local go_sem ↓] Go.wp_at_zero Go.wp_at_succ

def LineTo (l : List Pt) (a : Pt) (i k : Nat) : Prop := ∀ m, m < k → at0 l i = a ∨ det a (at0 l i) (at0 l m) = 0
theorem line_flat {l : List Pt} (h : 0 < l.length) (hl : ∀ i, i < l.length → LineTo l (at0 l 0) i l.length) : Flat l := by
  refine fun u hu v hv w hw => line0_all (a := at0 l 0) (l := l) ?_ u hu v hv w hw
  intro u hu v hv hne
  obtain ⟨i, hi, rfl⟩ := List.getElem_of_mem hu
  obtain ⟨k, hk, rfl⟩ := List.getElem_of_mem hv
  have := hl i hi k hk
  rw [at0_eq hi, at0_eq hk] at this
  exact this.resolve_left hne
theorem flat_line {l : List Pt} (hf : Flat l) {i k : Nat} (hi : i < l.length) (hk : k < l.length) : det (at0 l 0) (at0 l i) (at0 l k) = 0 :=
  hf _ (at0_mem (by omega)) _ (at0_mem hi) _ (at0_mem hk)
set_option maxRecDepth 100000 in
set_option maxHeartbeats 8000000 in
theorem collinear_any (A : Option Addr) (c : Nat) (l : List (Int × Int)) (w : World) (h : IsVecs w A c l) (hf : l.any farB = false) (hn : l.length ≤ 400) :
    Calls Try.prog 72 #[.slice A l.length c] w fun e w' => ∃ b : Bool, e = .returned (.bool b) ∧ (b = true ↔ Flat l) ∧ LaterOf w w' := by
  have H := Lib.hid (And.intro h hf)
  clear h hf
  go_enter Try.func72, Try.ntmps72
  go_wp2_with fail
  go_loopg [3] l.length (fun gas s1 wr => ∃ i : Nat, i ≤ l.length ∧ l.length - i ≤ gas ∧ s1 = .int .i64 i ∧ LaterOf w wr ∧ ∀ j, j < i → LineTo l (at0 l 0) j l.length)
  case atStart => exact ⟨0, by omega, by omega, rfl, by (repeat (first | (with_reducible exact LaterOf.refl _) | (with_reducible refine LaterOf.alloc ?_ _) | (with_reducible refine LaterOf.drew ?_) | (with_reducible refine LaterOf.drewN ?_ _) | (with_reducible refine LaterOf.later ?_ _) | (with_reducible refine LaterOf.setCell ?_ (by first | exact Nat.le_refl _ | (simp; done) | omega | (simp; omega)) _))), fun j hj => by omega⟩
  case round =>
    obtain ⟨i, hi, hgas, rfl, ⟨z, rfl⟩, hall⟩ := hrel
    by_cases hlt : i < l.length
    · have HA := Lib.hid hall
      clear hall
      go_wp2_with fail
      go_loopg [4] l.length (fun gas2 s2 wr => ∃ k : Nat, k ≤ l.length ∧ l.length - k ≤ gas2 ∧ s2 = .int .i64 k ∧ LaterOf z.wd wr ∧ LineTo l (at0 l 0) i k)
      case atStart => exact ⟨0, by omega, by omega, rfl, by (repeat (first | (with_reducible exact LaterOf.refl _) | (with_reducible refine LaterOf.alloc ?_ _) | (with_reducible refine LaterOf.drew ?_) | (with_reducible refine LaterOf.drewN ?_ _) | (with_reducible refine LaterOf.later ?_ _) | (with_reducible refine LaterOf.setCell ?_ (by first | exact Nat.le_refl _ | (simp; done) | omega | (simp; omega)) _))), fun m hm => by omega⟩
      case round =>
        obtain ⟨k, hk, hgas2, rfl, ⟨z2, rfl⟩, hin⟩ := hrel
        by_cases hkl : k < l.length
        · have hr0 := H.out.1.of (w' := z.wd) (by (repeat (first | (with_reducible exact SinceOf.refl _) | (with_reducible assumption) | (with_reducible refine SinceOf.alloc ?_ _) | (with_reducible refine SinceOf.drew ?_) | (with_reducible refine SinceOf.drewN ?_ _) | (with_reducible refine SinceOf.later ?_ _) | (with_reducible refine SinceOf.further ?_ _) | (with_reducible refine SinceOf.setCell ?_ (by first | exact Nat.le_refl _ | (simp; done) | omega | (simp; omega)) _))))
          obtain ⟨g, off, rfl, hr⟩ := hr0.at_ (by omega)
          have hO := hr.there
          have h00 : 0 < l.length := by omega
          have a0 := hr.v0 0 h00
          have a1 := hr.v1 0 h00
          have p0 := hr.v0 i hlt
          have p1 := hr.v1 i hlt
          have q0 := hr.v0 k hkl
          have q1 := hr.v1 k hkl
          simp only [Nat.zero_mul, Nat.add_zero] at a0 a1
          have fa : farB l[0] = false := by simpa using List.any_eq_false.1 H.out.2 _ (List.getElem_mem h00)
          have fp : farB l[i] = false := by simpa using List.any_eq_false.1 H.out.2 _ (List.getElem_mem hlt)
          have fq : farB l[k] = false := by simpa using List.any_eq_false.1 H.out.2 _ (List.getElem_mem hkl)
          have ht := turn_det fa fp fq
          have T := refTurn_any l[0].1 l[0].2 l[i].1 l[i].2 l[k].1 l[k].2
          rw [ht] at T
          have hz0 := cmpi_eq0 (det l[0] l[i] l[k])
          rw [← at0_eq h00, ← at0_eq hlt, ← at0_eq hkl] at *
          have hfl := fun hf => flat_line hf hlt hkl
          generalize hqe : at0 l k = q at *
          generalize hpe : at0 l i = p at *
          generalize hae : at0 l 0 = a at *
          generalize hd : det a p q = d at *
          obtain ⟨ax, ay⟩ := a
          obtain ⟨px, py⟩ := p
          obtain ⟨qx, qy⟩ := q
          simp only at a0 a1 p0 p1 q0 q1 T
          have HB := Lib.hid (And.intro hin (And.intro hpe (And.intro hae (And.intro hd (And.intro hfl hqe)))))
          clear hin hpe hae hd hfl hqe hr hr0 fa fp fq ht
          generalize cmpi d 0 = t at *
          by_cases he : eqv px py ax ay = true
          · obtain ⟨rfl, rfl⟩ := eqv_iff.1 he
            clear he
            go_wp2_with fail
            refine region_later (by kernel_rfl) (by kernel_rfl) ?_
            repeat (go_big_quiet_step (fail))
            refine wpQuiet_nil ?_
            rintro _ ⟨z4, rfl⟩
            go_wp2_with fail
            go_roundg (l.length - (k + 1))
            case measure => omega
            case rel => exact ⟨k + 1, hkl, Nat.le_refl _, by go_num, by (repeat (first | (with_reducible exact LaterOf.refl _) | (with_reducible refine LaterOf.alloc ?_ _) | (with_reducible refine LaterOf.drew ?_) | (with_reducible refine LaterOf.drewN ?_ _) | (with_reducible refine LaterOf.later ?_ _) | (with_reducible refine LaterOf.setCell ?_ (by first | exact Nat.le_refl _ | (simp; done) | omega | (simp; omega)) _))), fun m hm => .inl HB.out.2.1⟩
          · have hne : eqv px py ax ay = false := by simpa using he
            have HE := Lib.hid he
            clear he
            by_cases h0 : d = 0
            · have e3 : (t != 0) = false := by simp; exact hz0.2 h0
              clear hz0
              go_wp2_with fail
              refine region_later (by kernel_rfl) (by kernel_rfl) ?_
              repeat (go_big_quiet_step ((with_reducible refine Gives.later (T _))))
              refine wpQuiet_nil ?_
              rintro _ ⟨z4, rfl⟩
              go_wp2_with fail
              go_roundg (l.length - (k + 1))
              case measure => omega
              case rel =>
                refine ⟨k + 1, hkl, Nat.le_refl _, by go_num, by (repeat (first | (with_reducible exact LaterOf.refl _) | (with_reducible refine LaterOf.alloc ?_ _) | (with_reducible refine LaterOf.drew ?_) | (with_reducible refine LaterOf.drewN ?_ _) | (with_reducible refine LaterOf.later ?_ _) | (with_reducible refine LaterOf.setCell ?_ (by first | exact Nat.le_refl _ | (simp; done) | omega | (simp; omega)) _))), fun m hm => ?_⟩
                by_cases e : m = k
                · subst e
                  refine .inr ?_
                  rw [HB.out.2.1, HB.out.2.2.2.2.2]
                  exact HB.out.2.2.2.1.trans h0
                · exact HB.out.1 m (by omega)
            · have e3 : (t != 0) = true := by simp; exact fun h => h0 (hz0.1 h)
              clear hz0
              go_wp2_with fail
              refine region_later (by kernel_rfl) (by kernel_rfl) ?_
              repeat (go_big_quiet_step ((with_reducible refine Gives.later (T _))))
              refine wpQuiet_nil ?_
              rintro _ ⟨z4, rfl⟩
              go_wp2_with fail
              go_returns
              exact ⟨false, rfl, ⟨(fun h => by cases h), (fun hf => absurd (HB.out.2.2.2.2.1 hf) h0)⟩, by (repeat (first | (with_reducible exact LaterOf.refl _) | (with_reducible refine LaterOf.alloc ?_ _) | (with_reducible refine LaterOf.drew ?_) | (with_reducible refine LaterOf.drewN ?_ _) | (with_reducible refine LaterOf.later ?_ _) | (with_reducible refine LaterOf.setCell ?_ (by first | exact Nat.le_refl _ | (simp; done) | omega | (simp; omega)) _)))⟩
        · have hkl2 : k = l.length := by omega
          have HI := Lib.hid hin
          clear hin
          go_wp2_with fail
          go_roundg (l.length - (i + 1))
          case measure => omega
          case rel =>
            refine ⟨i + 1, hlt, Nat.le_refl _, by go_num, by (repeat (first | (with_reducible exact LaterOf.refl _) | (with_reducible refine LaterOf.alloc ?_ _) | (with_reducible refine LaterOf.drew ?_) | (with_reducible refine LaterOf.drewN ?_ _) | (with_reducible refine LaterOf.later ?_ _) | (with_reducible refine LaterOf.setCell ?_ (by first | exact Nat.le_refl _ | (simp; done) | omega | (simp; omega)) _))), fun j hj => ?_⟩
            by_cases e : j = i
            · subst e; rw [← hkl2]; exact HI.out
            · exact HA.out j (by omega)
    · have hil : i = l.length := by omega
      subst hil
      have HA := Lib.hid hall
      clear hall
      go_wp2_with fail
      go_returns
      refine ⟨true, rfl, ⟨fun _ => ?_, fun _ => rfl⟩, by (repeat (first | (with_reducible exact LaterOf.refl _) | (with_reducible refine LaterOf.alloc ?_ _) | (with_reducible refine LaterOf.drew ?_) | (with_reducible refine LaterOf.drewN ?_ _) | (with_reducible refine LaterOf.later ?_ _) | (with_reducible refine LaterOf.setCell ?_ (by first | exact Nat.le_refl _ | (simp; done) | omega | (simp; omega)) _)))⟩
      by_cases h0 : l.length = 0
      · have : l = [] := List.length_eq_zero_iff.1 h0
        subst this
        exact fun u hu => by cases hu
      · exact line_flat (by omega) HA.out
end Go.Proofs.Yticmfmcflikneaa
