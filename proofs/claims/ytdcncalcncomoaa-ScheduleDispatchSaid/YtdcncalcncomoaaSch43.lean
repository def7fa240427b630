/- Layer 52 (the reference): open. -/
import Derived.Test.YtdcncalcncomoaaSch41
namespace Go.Proofs.Ytdcncalcncomoaa
open Go.RowKit Go.Sort
set_option linter.unusedVariables false
attribute [local go_sem ↓] Go.wp_at_zero Go.wp_at_succ

theorem firstN_succ (L : List JobR) (l : List SlotR) (k i : Nat) : firstN L l k (i + 1) = (firstN L l k i && (!(ordK L l i == ordK L l k) || decide (k ≤ i))) := by
  unfold firstN; rw [List.range_succ, List.all_append]; simp
theorem any_take_succ {α : Type} (p : α → Bool) {l : List α} {i : Nat} (h : i < l.length) : (l.take (i + 1)).any p = ((l.take i).any p || p l[i]) := by
  rw [List.take_succ_eq_append_getElem h, List.any_append]; simp
theorem ordK_at {L : List JobR} {l : List SlotR} {k : Nat} (h : k < l.length) : ordK L l k = (jobAt L l[k].job).ord := by unfold ordK ordAt; rw [getS_at h]
set_option maxRecDepth 100000 in
set_option maxHeartbeats 16000000 in
theorem refOpen52_any (A : Option Addr) (c : Nat) (L : List JobR) (B : Option Addr) (d : Nat) (l : List SlotR) (t : Int) (w : World) (h : IsJobs w A c L) (hl : IsSlots w B d l) (hll : l.length < 4611686018427387904) (hn : ∀ y ∈ l, 0 ≤ y.job ∧ y.job < L.length) :
    Gives Try.prog 35 #[.slice A L.length c, .slice B l.length d, .int .i64 t] w (.int .i64 (openR L t l)) := by
  apply Gives.ret
  have hjl := h.len
  have H := Lib.hid (And.intro h (And.intro hl hn))
  clear h hl hn
  go_enter Try.func35, Try.ntmps35
  go_wp2_with fail
  go_loopg [7, 8] l.length (fun gas s7 s8 wr => ∃ k : Nat, k ≤ l.length ∧ l.length - k ≤ gas ∧ s7 = .int .i64 (openTR L t l k) ∧ s8 = .int .i64 k ∧ LaterOf w wr)
  case atStart => exact ⟨0, by omega, by omega, rfl, rfl, by (repeat (first | (with_reducible exact LaterOf.refl _) | (with_reducible refine LaterOf.alloc ?_ _) | (with_reducible refine LaterOf.drew ?_) | (with_reducible refine LaterOf.drewN ?_ _) | (with_reducible refine LaterOf.later ?_ _) | (with_reducible refine LaterOf.setCell ?_ (by first | exact Nat.le_refl _ | (simp; done) | omega | (simp; omega)) _)))⟩
  case round =>
    obtain ⟨k, hk, hgas, rfl, rfl, ⟨z, rfl⟩⟩ := hrel
    by_cases hlt : k < l.length
    · have hst := openTR_succ L t l k
      have hle := openTR_le L t l k
      have hsr : stepR L t l k = (firstN L l k l.length && (begunI L t l (ordK L l k) && runI L t l (ordK L l k))) := rfl
      have hrl' := H.out.2.1.of (w' := z.wd) (by (repeat (first | (with_reducible exact SinceOf.refl _) | (with_reducible assumption) | (with_reducible refine SinceOf.alloc ?_ _) | (with_reducible refine SinceOf.drew ?_) | (with_reducible refine SinceOf.drewN ?_ _) | (with_reducible refine SinceOf.later ?_ _) | (with_reducible refine SinceOf.further ?_ _) | (with_reducible refine SinceOf.setCell ?_ (by first | exact Nat.le_refl _ | (simp; done) | omega | (simp; omega)) _))))
      have hjl' := H.out.1.of (w' := z.wd) (by (repeat (first | (with_reducible exact SinceOf.refl _) | (with_reducible assumption) | (with_reducible refine SinceOf.alloc ?_ _) | (with_reducible refine SinceOf.drew ?_) | (with_reducible refine SinceOf.drewN ?_ _) | (with_reducible refine SinceOf.later ?_ _) | (with_reducible refine SinceOf.further ?_ _) | (with_reducible refine SinceOf.setCell ?_ (by first | exact Nat.le_refl _ | (simp; done) | omega | (simp; omega)) _))))
      have hkj := H.out.2.2 _ (List.getElem_mem hlt)
      obtain ⟨g, off, rfl, hr⟩ := hrl'.at_ (by omega)
      obtain ⟨gj, oj, rfl, hrj⟩ := hjl'.row.at_ (by omega)
      have hO := hr.there
      have hOj := hrj.there
      have s0 := hr.s0 k hlt
      obtain ⟨jn, ejn⟩ : ∃ m : Nat, l[k].job = m := ⟨l[k].job.toNat, by omega⟩
      have hjn : jn < L.length := by omega
      have jc := hrj.j5 jn hjn
      have hok : L[jn].ord = ordK L l k := by rw [ordK_at hlt, ejn, jobAt_at hjn]
      rw [hok] at jc
      rw [ejn] at s0
      generalize hoo : ordK L l k = o at *
      generalize openTR L t l k = cn at *
      have HR := Lib.hid (And.intro hr hrj)
      have HS := Lib.hid (And.intro hst (And.intro hsr hoo))
      clear hr hrj hrl' hjl' hok ejn hst hsr hoo hkj
      go_wp2_with fail
      go_loopg [10, 11, 12, 13] l.length (fun gas s10 s11 s12 s13 wr => ∃ i : Nat, i ≤ l.length ∧ l.length - i ≤ gas ∧ s10 = .bool (firstN L l k i) ∧ s11 = .bool ((l.take i).any fun x => ordAt L x == o && decide (x.start ≤ t)) ∧ s12 = .bool ((l.take i).any fun x => ordAt L x == o && decide (t < x.stop)) ∧ s13 = .int .i64 i ∧ LaterOf z.wd wr)
      case atStart => exact ⟨0, by omega, by omega, rfl, rfl, rfl, rfl, by (repeat (first | (with_reducible exact LaterOf.refl _) | (with_reducible refine LaterOf.alloc ?_ _) | (with_reducible refine LaterOf.drew ?_) | (with_reducible refine LaterOf.drewN ?_ _) | (with_reducible refine LaterOf.later ?_ _) | (with_reducible refine LaterOf.setCell ?_ (by first | exact Nat.le_refl _ | (simp; done) | omega | (simp; omega)) _)))⟩
      case round =>
        obtain ⟨i, hi, hgas2, rfl, rfl, rfl, rfl, ⟨z2, rfl⟩⟩ := hrel
        by_cases hlti : i < l.length
        · have f1 := firstN_succ L l k i
          have f2 := any_take_succ (fun x => ordAt L x == o && decide (x.start ≤ t)) hlti
          have f3 := any_take_succ (fun x => ordAt L x == o && decide (t < x.stop)) hlti
          have e3 : ordAt L l[i] = ordK L l i := by unfold ordK; rw [getS_at hlti]
          rw [HS.out.2.2] at f1
          rw [e3] at f2 f3
          have s1 := HR.out.1.s0 i hlti
          have s2 := HR.out.1.s2 i hlti
          have s3 := HR.out.1.s3 i hlti
          have hkj := H.out.2.2 _ (List.getElem_mem hlti)
          obtain ⟨jm, ejm⟩ : ∃ m : Nat, l[i].job = m := ⟨l[i].job.toNat, by omega⟩
          have hjm : jm < L.length := by omega
          have jd := HR.out.2.j5 jm hjm
          have hok : L[jm].ord = ordK L l i := by rw [ordK_at hlti, ejm, jobAt_at hjm]
          rw [hok] at jd
          rw [ejm] at s1
          generalize ordK L l i = oi at *
          generalize l[i].start = xs at *
          generalize l[i].stop = xe at *
          generalize firstN L l k i = b1 at *
          generalize ((l.take i).any fun x => ordAt L x == o && decide (x.start ≤ t)) = b2 at *
          generalize ((l.take i).any fun x => ordAt L x == o && decide (t < x.stop)) = b3 at *
          clear hkj ejm hok e3
          by_cases he : oi = o
          · have e : (oi == o) = true := by simpa using he
            rw [e] at f1 f2 f3
            have HF := Lib.hid (And.intro f1 (And.intro f2 f3))
            clear f1 f2 f3 he
            cases b1 <;> cases b2 <;> cases b3
            all_goals
              go_wp2_with fail
              go_roundg (l.length - (i + 1))
              case measure => omega
              case rel => exact ⟨i + 1, hlti, Nat.le_refl _, by rw [HF.out.1]; simp, by rw [HF.out.2.1]; simp, by rw [HF.out.2.2]; simp, by go_num, by (repeat (first | (with_reducible exact LaterOf.refl _) | (with_reducible refine LaterOf.alloc ?_ _) | (with_reducible refine LaterOf.drew ?_) | (with_reducible refine LaterOf.drewN ?_ _) | (with_reducible refine LaterOf.later ?_ _) | (with_reducible refine LaterOf.setCell ?_ (by first | exact Nat.le_refl _ | (simp; done) | omega | (simp; omega)) _)))⟩
          · have e : (oi == o) = false := by simpa using he
            rw [e] at f1 f2 f3
            have HF := Lib.hid (And.intro f1 (And.intro f2 f3))
            clear f1 f2 f3 he s2 s3
            go_wp2_with fail
            go_roundg (l.length - (i + 1))
            case measure => omega
            case rel => exact ⟨i + 1, hlti, Nat.le_refl _, by rw [HF.out.1]; simp, by rw [HF.out.2.1]; simp, by rw [HF.out.2.2]; simp, by go_num, by (repeat (first | (with_reducible exact LaterOf.refl _) | (with_reducible refine LaterOf.alloc ?_ _) | (with_reducible refine LaterOf.drew ?_) | (with_reducible refine LaterOf.drewN ?_ _) | (with_reducible refine LaterOf.later ?_ _) | (with_reducible refine LaterOf.setCell ?_ (by first | exact Nat.le_refl _ | (simp; done) | omega | (simp; omega)) _)))⟩
        · have hil : i = l.length := by omega
          have e1 : firstN L l k i = firstN L l k l.length := by rw [hil]
          have e2 : ((l.take i).any fun x => ordAt L x == o && decide (x.start ≤ t)) = begunI L t l o := by rw [hil, List.take_length]; rfl
          have e3 : ((l.take i).any fun x => ordAt L x == o && decide (t < x.stop)) = runI L t l o := by rw [hil, List.take_length]; rfl
          rw [e1, e2, e3]
          have hs1 := HS.out.1
          rw [HS.out.2.1] at hs1
          generalize firstN L l k l.length = b1 at *
          generalize begunI L t l o = b2 at *
          generalize runI L t l o = b3 at *
          have HC := Lib.hid hs1
          clear e1 e2 e3 hs1 hil s0 jc
          cases b1 <;> cases b2 <;> cases b3
          all_goals
            go_wp2_with fail
            go_roundg (l.length - (k + 1))
            case measure => omega
            case rel => exact ⟨k + 1, hlt, Nat.le_refl _, by rw [HC.out]; simp, by go_num, by (repeat (first | (with_reducible exact LaterOf.refl _) | (with_reducible refine LaterOf.alloc ?_ _) | (with_reducible refine LaterOf.drew ?_) | (with_reducible refine LaterOf.drewN ?_ _) | (with_reducible refine LaterOf.later ?_ _) | (with_reducible refine LaterOf.setCell ?_ (by first | exact Nat.le_refl _ | (simp; done) | omega | (simp; omega)) _)))⟩
    · have hkl : k = l.length := by omega
      have e : openR L t l = openTR L t l k := by rw [hkl]; rfl
      generalize openTR L t l k = v at *
      have HE := Lib.hid e
      clear e hkl
      go_wp2_with fail
      go_returns
      exact ⟨by rw [HE.out]; rfl, by (repeat (first | (with_reducible exact LaterOf.refl _) | (with_reducible refine LaterOf.alloc ?_ _) | (with_reducible refine LaterOf.drew ?_) | (with_reducible refine LaterOf.drewN ?_ _) | (with_reducible refine LaterOf.later ?_ _) | (with_reducible refine LaterOf.setCell ?_ (by first | exact Nat.le_refl _ | (simp; done) | omega | (simp; omega)) _)))⟩
end Go.Proofs.Ytdcncalcncomoaa
