/- Layer 54, the reference: a slot of a job, a begun slot; equal lists; a number added in ascending order. -/
import Derived.Test.YtpaojgfmffkodaaGreatASch47
import Derived.Test.YtpaojgfmffkodaaGreatARepP8
import Derived.Test.YtpaojgfmffkodaaGreatARep6b
namespace Go.Proofs.YtpaojgfmffkodaaGreat
set_option linter.unusedVariables false
set_option linter.unusedSimpArgs false
open Go.RowKit Go.Sort
attribute [local go_sem ↓] Go.wp_at_zero Go.wp_at_succ
def begP (now j : Int) (y : SlotR) : Bool := y.job == j && decide (y.start < now)
theorem begP_any (now j : Int) (l : List SlotR) : l.any (begP now j) = begunJ (l.filter fun y => decide (y.start < now)) j := by
 unfold begunJ begP
 rw [List.any_filter]
 congr 1
 funext y
 rw [Bool.and_comm]
set_option maxRecDepth 100000 in
set_option maxHeartbeats 4000000 in
theorem refBegun54_any (A : Option Addr) (c : Nat) (l : List SlotR) (now j : Int) (w : World) (h : IsSlots w A c l) (hlen : l.length < 4611686018427387904) :
 Gives Tryz.prog 44 #[.slice A l.length c, .int .i64 now, .int .i64 j] w (.bool (l.any (begP now j))) := by
 apply Gives.ret
 have H := Lib.hid h
 clear h
 go_enter Tryz.func44, Tryz.ntmps44
 go_wp2_with fail
 go_loopg [7] l.length (fun gas s7 wr => ∃ k : Nat, k ≤ l.length ∧ l.length - k ≤ gas ∧ s7 = .int .i64 k ∧ LaterOf w wr ∧ l.any (begP now j) = (l.drop k).any (begP now j))
 case atStart => exact ⟨0, by omega, by omega, rfl, Lx, by rw [List.drop_zero]⟩
 case round =>
  obtain ⟨k, hk, hgas, rfl, ⟨z, rfl⟩, hany⟩ := hrel
  by_cases hlt : k < l.length
  · have hc := (H.out.of (LaterOf.since ⟨z, rfl⟩))
    obtain ⟨g, off, rfl, hr⟩ := hc.at_ (by omega)
    have hO := hr.there
    have k0 := hr.s0 k hlt
    have k2 := hr.s2 k hlt
    rw [any_drop (begP now j) hlt] at hany
    generalize l[k] = x at *
    obtain ⟨x0, x1, x2, x3⟩ := x
    simp only at k0 k2
    clear hc hr
    by_cases e1 : x0 = j
    · subst e1
      by_cases e2 : x2 < now
      · have HA := Lib.hid (show l.any (begP now x0) = true by rw [hany]; simp [begP, e2])
        clear hany
        go_wp2_with fail
        go_returns
        exact ⟨by rw [HA.out]; rfl, Lx⟩
      · have HA := Lib.hid (show l.any (begP now x0) = (l.drop (k + 1)).any (begP now x0) by rw [hany]; simp [begP, e2])
        clear hany
        go_wp2_with fail
        go_roundg (l.length - (k + 1))
        case measure => omega
        case rel => exact ⟨k + 1, hlt, Nat.le_refl _, by go_num, Lx, HA.out⟩
    · have e2 : (x0 == j) = false := by simpa using e1
      have HA := Lib.hid (show l.any (begP now j) = (l.drop (k + 1)).any (begP now j) by rw [hany]; simp [begP, e2])
      clear hany e1
      go_wp2_with fail
      go_roundg (l.length - (k + 1))
      case measure => omega
      case rel => exact ⟨k + 1, hlt, Nat.le_refl _, by go_num, Lx, HA.out⟩
  · have hkl : k = l.length := by omega
    rw [hkl, List.drop_length] at hany
    have HA := Lib.hid hany
    clear hany
    go_wp2_with fail
    go_returns
    exact ⟨by rw [HA.out]; rfl, Lx⟩
set_option maxRecDepth 100000 in
set_option maxHeartbeats 4000000 in
theorem refInts54_any (A B : Option Addr) (c d : Nat) (l : List Int) (w : World) (hl : IsInts w A c l) (hm : IsInts w B d l) (hn : l.length < 4611686018427387904) :
 Gives Tryz.prog 48 #[.slice A l.length c, .slice B l.length d] w (.bool true) := by
 apply Gives.ret
 have H := Lib.hid (And.intro hl hm)
 clear hl hm
 go_enter Tryz.func48, Tryz.ntmps48
 go_wp2_with fail
 go_loopg [5] l.length (fun gas s5 wr => ∃ k : Nat, k ≤ l.length ∧ l.length - k ≤ gas ∧ s5 = .int .i64 k ∧ LaterOf w wr)
 case atStart => exact ⟨0, by omega, by omega, rfl, Lx⟩
 case round =>
  obtain ⟨k, hk, hgas, rfl, ⟨z, rfl⟩⟩ := hrel
  by_cases hlt : k < l.length
  · obtain ⟨g, off, rfl, hr⟩ := (H.out.1.of (LaterOf.since ⟨z, rfl⟩)).at_ (by omega)
    obtain ⟨g2, off2, rfl, hr2⟩ := (H.out.2.of (LaterOf.since ⟨z, rfl⟩)).at_ (by omega)
    have hO := hr.there
    have hO2 := hr2.there
    have k0 := hr.n0 k hlt
    have k2 := hr2.n0 k hlt
    generalize l[k] = x at *
    clear hr hr2
    go_wp2_with fail
    refine region_later (by kernel_rfl) (by kernel_rfl) ?_
    repeat (go_big_quiet_step (fail))
    refine wpQuiet_nil ?_
    rintro _ ⟨z2, rfl⟩
    go_wp2_with fail
    go_roundg (l.length - (k + 1))
    case measure => omega
    case rel => exact ⟨k + 1, hlt, Nat.le_refl _, by go_num, Lx⟩
  · go_wp2_with fail
    go_returns
    exact ⟨rfl, Lx⟩
theorem addr_add (g o p : Nat) : (⟨g, o, none⟩ : Addr).add p = ⟨g, o + p, none⟩ := by unfold Addr.add; split <;> simp_all
end Go.Proofs.YtpaojgfmffkodaaGreat
/- Layer 54, the reference: the jobs without slots in their order. -/
namespace Go.Proofs.YtpaojgfmffkodaaGreat
set_option linter.unusedVariables false
set_option linter.unusedSimpArgs false
open Go.RowKit Go.Sort
attribute [local go_sem ↓] Go.wp_at_zero Go.wp_at_succ
end Go.Proofs.YtpaojgfmffkodaaGreat
