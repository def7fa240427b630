/- Layer 54, the reference: a slot of a job, a begun slot; equal lists; a number added in ascending order. -/
import Derived.Test.YtpaojgfmffkodaaGreatLSch47
import Derived.Test.YtpaojgfmffkodaaGreatLRepP8
import Derived.Test.YtpaojgfmffkodaaGreatLRep6b
namespace Go.Proofs.YtpaojgfmffkodaaGreat
set_option linter.unusedVariables false
set_option linter.unusedSimpArgs false
open Go.RowKit Go.Sort
attribute [local go_sem ↓] Go.wp_at_zero Go.wp_at_succ
set_option maxRecDepth 100000 in
set_option maxHeartbeats 4000000 in
theorem refHas54_any (A : Option Addr) (c : Nat) (l : List SlotR) (j : Int) (w : World) (h : IsSlots w A c l) (hlen : l.length < 4611686018427387904) :
    Gives Tryz.prog 56 #[.slice A l.length c, .int .i64 j] w (.bool (l.any fun y => y.job == j)) := by
  apply Gives.ret
  have H := Lib.hid h
  clear h
  go_enter Tryz.func56, Tryz.ntmps56
  go_wp2_with fail
  go_loopg [5] l.length (fun gas s5 wr => ∃ k : Nat, k ≤ l.length ∧ l.length - k ≤ gas ∧ s5 = .int .i64 k ∧ LaterOf w wr ∧ (l.any fun y => y.job == j) = (l.drop k).any fun y => y.job == j)
  case atStart => exact ⟨0, by omega, by omega, rfl, Lx, by rw [List.drop_zero]⟩
  case round =>
    obtain ⟨k, hk, hgas, rfl, ⟨z, rfl⟩, hany⟩ := hrel
    by_cases hlt : k < l.length
    · have hc := (H.out.of (LaterOf.since ⟨z, rfl⟩))
      obtain ⟨g, off, rfl, hr⟩ := hc.at_ (by omega)
      have hO := hr.there
      have k0 := hr.s0 k hlt
      rw [any_drop (fun y : SlotR => y.job == j) hlt] at hany
      generalize l[k] = x at *
      obtain ⟨x0, x1, x2, x3⟩ := x
      simp only at k0 hany
      clear hc hr
      by_cases e1 : x0 = j
      · subst e1
        have HA := Lib.hid (show (l.any fun y => y.job == x0) = true by rw [hany]; simp)
        clear hany
        go_wp2_with fail
        go_returns
        exact ⟨by rw [HA.out]; rfl, Lx⟩
      · have e2 : (x0 == j) = false := by simpa using e1
        have HA := Lib.hid (show (l.any fun y => y.job == j) = (l.drop (k + 1)).any (fun y => y.job == j) by rw [hany]; simp [e2])
        clear hany e1
        go_wp2_with fail
        go_roundg (l.length - (k + 1))
        case measure => omega
        case rel => exact ⟨k + 1, hlt, Nat.le_refl _, by go_num, Lx, HA.out⟩
    · have hkl : k = l.length := by omega
      rw [hkl, List.drop_length] at hany
      have HA := Lib.hid hany
      clear hany
      go_wp2_with fail
      go_returns
      exact ⟨by rw [HA.out]; rfl, Lx⟩
set_option maxRecDepth 100000 in
set_option maxHeartbeats 4000000 in
theorem refInts54_any (A B : Option Addr) (c d : Nat) (l : List Int) (w : World) (hl : IsInts w A c l) (hm : IsInts w B d l) (hn : l.length < 4611686018427387904) :
    Gives Tryz.prog 48 #[.slice A l.length c, .slice B l.length d] w (.bool true) := by
  apply Gives.ret
  have H := Lib.hid (And.intro hl hm)
  clear hl hm
  go_enter Tryz.func48, Tryz.ntmps48
  go_wp2_with fail
  go_loopg [5] l.length (fun gas s5 wr => ∃ k : Nat, k ≤ l.length ∧ l.length - k ≤ gas ∧ s5 = .int .i64 k ∧ LaterOf w wr)
  case atStart => exact ⟨0, by omega, by omega, rfl, Lx⟩
  case round =>
    obtain ⟨k, hk, hgas, rfl, ⟨z, rfl⟩⟩ := hrel
    by_cases hlt : k < l.length
    · obtain ⟨g, off, rfl, hr⟩ := (H.out.1.of (LaterOf.since ⟨z, rfl⟩)).at_ (by omega)
      obtain ⟨g2, off2, rfl, hr2⟩ := (H.out.2.of (LaterOf.since ⟨z, rfl⟩)).at_ (by omega)
      have hO := hr.there
      have hO2 := hr2.there
      have k0 := hr.n0 k hlt
      have k2 := hr2.n0 k hlt
      generalize l[k] = x at *
      clear hr hr2
      go_wp2_with fail
      refine region_later (by kernel_rfl) (by kernel_rfl) ?_
      repeat (go_big_quiet_step (fail))
      refine wpQuiet_nil ?_
      rintro _ ⟨z2, rfl⟩
      go_wp2_with fail
      go_roundg (l.length - (k + 1))
      case measure => omega
      case rel => exact ⟨k + 1, hlt, Nat.le_refl _, by go_num, Lx⟩
    · go_wp2_with fail
      go_returns
      exact ⟨rfl, Lx⟩
theorem addr_add (g o p : Nat) : (⟨g, o, none⟩ : Addr).add p = ⟨g, o + p, none⟩ := by unfold Addr.add; split <;> simp_all
theorem upI_at {l : List Int} {n : Int} {k : Nat} (hs : l.Pairwise (· ≤ ·)) (h1 : ∀ j, (h : j < l.length) → k ≤ j → n < l[j]) (h2 : k = 0 ∨ ∃ h : k - 1 < l.length, ¬ n < l[k - 1]) : upI n l = l.take k ++ n :: l.drop k := by
  have e : l = l.take k ++ l.drop k := (List.take_append_drop k l).symm
  have := upI_split n (a := l.take k) (b := l.drop k) (fun x hx => by
    obtain ⟨j, hj, rfl⟩ := List.mem_take_iff_getElem.1 hx
    rcases h2 with h2 | ⟨h2, h3⟩
    · omega
    · rw [List.pairwise_iff_getElem] at hs
      by_cases e : j = k - 1
      · subst e; omega
      · have := hs j (k - 1) (by omega) h2 (by omega)
        omega) (fun x hx => by
    obtain ⟨j, hj, rfl⟩ := List.mem_drop_iff_getElem.1 hx
    exact h1 _ _ (by omega))
  rw [← e] at this
  exact this
set_option maxRecDepth 100000 in
set_option maxHeartbeats 8000000 in
theorem refAsc54_any (A : Option Addr) (c : Nat) (l : List Int) (n : Int) (w : World) (h : IsInts w A c l) (hs : l.Pairwise (· ≤ ·)) (hll : l.length < 1000000) (hcap : l.length ≤ c) :
    Calls Tryz.prog 57 #[.slice A l.length c, .int .i64 n] w fun e w' => ∃ A' c', e = .returned (.slice A' (upI n l).length c') ∧ Owns encN 1 w.heap.size 3 w' A' c' (upI n l) ∧ SinceOf w w' := by
  obtain ⟨i0, hi, hz0, hz1, hz2⟩ := info_parts infoInt
  have HI := Lib.hid (And.intro hi (And.intro hz0 (And.intro hz1 hz2)))
  have H := Lib.hid h
  have HS := Lib.hid hs
  clear hi hz0 hz1 hz2 h hs
  go_enter Tryz.func57, Tryz.ntmps57
  go_wp2_with fail
  go_loopg [5] l.length (fun gas s5 wr => ∃ p : Nat, p ≤ l.length ∧ p ≤ gas ∧ s5 = .int .i64 p ∧ SinceOf w wr ∧ ∀ j, (h : j < l.length) → p ≤ j → n < l[j])
  case atStart => exact ⟨l.length, Nat.le_refl _, Nat.le_refl _, rfl, Sx, fun j h1 h2 => by omega⟩
  case round =>
    obtain ⟨p, hple, hgas, rfl, ⟨z, rfl⟩, hup⟩ := hrel
    have hbz : w.heap.size ≤ z.wd.heap.size := z.size
    have hpc : p ≤ c := by omega
    have R3 := Lib.hid (H.out.of (show SinceOf w z.wd from Sx))
    by_cases hp : (0 : Int) < (p : Int)
    · obtain ⟨q, hq⟩ : ∃ q : Nat, (p : Int) - 1 = q := ⟨p - 1, by omega⟩
      have hql : q < l.length := by omega
      by_cases he : n < l[q]
      · have HU := Lib.hid (show ∀ j, (h : j < l.length) → q ≤ j → n < l[j] from fun j h1 h2 => by
          by_cases e : j = q
          · subst e; exact he
          · exact hup j h1 (by omega))
        obtain ⟨g, off, rfl, hr⟩ := R3.out.at_ (by omega)
        have hO := hr.there
        have k0 := hr.n0 q hql
        generalize l[q] = x at *
        clear hup hr
        go_wp2_with fail
        go_roundg q
        case measure => omega
        case rel => exact ⟨q, by omega, Nat.le_refl _, by go_num, Sx, HU.out⟩
      · have he2 : ¬ n < l[p - 1]'(by omega) := by
          have e : p - 1 = q := by omega
          simp only [e]
          exact he
        have HE := Lib.hid (upI_at (k := p) HS.out hup (.inr ⟨by omega, he2⟩))
        clear he2
        obtain ⟨g, off, rfl, hr⟩ := R3.out.at_ (by omega)
        have hO := hr.there
        have k0 := hr.n0 q hql
        generalize l[q] = x at *
        clear hup hr
        obtain ⟨hi, hz0, hz1, hz2⟩ := HI.out
        go_wp2_with fail
        go_region_law ((first
          | (refine step_append_row rfl (.tmp 21) (.tmp 24) 57 rfl encN_len (by omega) encN_one i0 _ 8 Tryz.underlying57 hi hz0 hz1 hz2 rfl (l := []) (c := 0) (base := w.heap.size) rfl ?own (m := l.take p) (B := (some ⟨g, off, none⟩)) (d := c) ?hx ?hm ?h63 ?hby ?hbase ?_
             case own => first | exact ownsN_empty _ _ hbz | exact (ownsN_empty _ _ hbz).alloc _ | (have q := ownsN_empty (z.wd.alloc (.cells #[.int .i64 n] 3)) (w.heap.size) (by simp; omega); rw [show (z.wd.alloc (.cells #[.int .i64 n] 3)).heap.size = z.wd.heap.size + 1 from by simp] at q; exact q)
             case hx => simp [Act.eval, hple]
             case hm => exact (R3.out.take p).of Sx
             case h63 => unfold maxLen; simp; omega
             case hby => simp; omega
             case hbase => simp; omega
             intro A1 c1 w1 hown1 hgrow1 hb1
             have hs1 : SinceOf z.wd w1 := SinceOf.grown Sx hgrow1 (by intro q hq; simp [blockOf] at hq; omega))
          | (refine step_append_row rfl (.tmp 25) (.tmp 27) 57 rfl encN_len (by omega) encN_one i0 _ 8 Tryz.underlying57 hi hz0 hz1 hz2 rfl (l := [] ++ l.take p) (A := A1) (c := c1) (base := w.heap.size) ?hs ?own (m := [n]) rfl ?hm ?h63 ?hby ?hbase ?_
             case hs => simp [Act.eval, hple]
             case own => first | exact hown1.alloc _ | exact hown1
             case hm => first
               | exact ⟨(by intro h; cases h), .inr ⟨_, _, rfl, rowN_one _ _⟩⟩
               | exact ⟨(by intro h; cases h), .inr ⟨_, _, rfl, RowAt.grown (RowAt.of (rowN_one z.wd n) Sx) hgrow1 (by simp [blockOf])⟩⟩
               | (have q := rowN_one (z.wd.alloc (.cells #[] 3)) n
                  rw [show (z.wd.alloc (.cells #[] 3)).heap.size = z.wd.heap.size + 1 from by simp] at q
                  exact ⟨(by intro h; cases h), .inr ⟨_, _, rfl, RowAt.grown (RowAt.of q Sx) hgrow1 (by simp [blockOf])⟩⟩)
             case h63 => unfold maxLen; simp; omega
             case hby => simp; omega
             case hbase => first | (have := hgrow1.size; simp at this ⊢; omega)
             intro A2' c2'' w2 hown2 hgrow2 hb2
             have hs2 : SinceOf z.wd w2 := SinceOf.grown Sx hgrow2 (by intro q hq; rw [hq] at hb1; simp [blockOf] at hb1; omega))
          | (refine step_append_row rfl (.tmp 28) (.tmp 31) 57 rfl encN_len (by omega) encN_one i0 _ 8 Tryz.underlying57 hi hz0 hz1 hz2 rfl (l := [] ++ l.take p ++ [n]) (A := A2') (c := c2'') (base := w.heap.size) ?hs ?own (m := l.drop p) (B := if c = p then (some ⟨g, off, none⟩) else some ⟨g, off + p, none⟩) (d := c - p) ?hx ?hm ?h63 ?hby ?hbase ?_
             case hs => simp [Act.eval, hple]
             case own => exact hown2
             case hx => simp [Act.eval]
             case hm => have q9 := (R3.out.drop hcap p).of (show SinceOf z.wd w2 from Sx); simpa [addr_add] using q9
             case h63 => unfold maxLen; simp; omega
             case hby => simp; omega
             case hbase => have := hs2.size; simp at this ⊢; omega
             intro A3 c3 w3 hown3 hgrow3 hb3
             have hs3 : SinceOf z.wd w3 := SinceOf.grown Sx hgrow3 (by
               have h1 := hs1.size
               intro q hq; rw [hq] at hb3; rw [hq] at hb2
               rcases hb2 with h | h
               · rw [← h] at hb1; simp [blockOf] at hb1; omega
               · simp at h; omega))))
        all_goals go_wp2_with fail
        all_goals go_returns
        all_goals
          refine ⟨A3, c3, ?_, ?_, SinceOf.trans (show SinceOf w z.wd from Sx) hs3⟩
          · rw [HE.out]; simp [hple]; omega
          · rw [HE.out]; simpa using hown3
    · have HE := Lib.hid (upI_at (k := p) HS.out hup (.inl (by omega)))
      clear hup
      obtain ⟨hi, hz0, hz1, hz2⟩ := HI.out
      go_wp2_with fail
      go_region_law ((first
        | (refine step_append_row rfl (.tmp 21) (.tmp 24) 57 rfl encN_len (by omega) encN_one i0 _ 8 Tryz.underlying57 hi hz0 hz1 hz2 rfl (l := []) (c := 0) (base := w.heap.size) rfl ?own (m := l.take p) (B := A) (d := c) ?hx ?hm ?h63 ?hby ?hbase ?_
           case own => first | exact ownsN_empty _ _ hbz | exact (ownsN_empty _ _ hbz).alloc _ | (have q := ownsN_empty (z.wd.alloc (.cells #[.int .i64 n] 3)) (w.heap.size) (by simp; omega); rw [show (z.wd.alloc (.cells #[.int .i64 n] 3)).heap.size = z.wd.heap.size + 1 from by simp] at q; exact q)
           case hx => simp [Act.eval, hple]
           case hm => exact (R3.out.take p).of Sx
           case h63 => unfold maxLen; simp; omega
           case hby => simp; omega
           case hbase => simp; omega
           intro A1 c1 w1 hown1 hgrow1 hb1
           have hs1 : SinceOf z.wd w1 := SinceOf.grown Sx hgrow1 (by intro q hq; simp [blockOf] at hq; omega))
        | (refine step_append_row rfl (.tmp 25) (.tmp 27) 57 rfl encN_len (by omega) encN_one i0 _ 8 Tryz.underlying57 hi hz0 hz1 hz2 rfl (l := [] ++ l.take p) (A := A1) (c := c1) (base := w.heap.size) ?hs ?own (m := [n]) rfl ?hm ?h63 ?hby ?hbase ?_
           case hs => simp [Act.eval, hple]
           case own => first | exact hown1.alloc _ | exact hown1
           case hm => first
             | exact ⟨(by intro h; cases h), .inr ⟨_, _, rfl, rowN_one _ _⟩⟩
             | exact ⟨(by intro h; cases h), .inr ⟨_, _, rfl, RowAt.grown (RowAt.of (rowN_one z.wd n) Sx) hgrow1 (by simp [blockOf])⟩⟩
             | (have q := rowN_one (z.wd.alloc (.cells #[] 3)) n
                rw [show (z.wd.alloc (.cells #[] 3)).heap.size = z.wd.heap.size + 1 from by simp] at q
                exact ⟨(by intro h; cases h), .inr ⟨_, _, rfl, RowAt.grown (RowAt.of q Sx) hgrow1 (by simp [blockOf])⟩⟩)
           case h63 => unfold maxLen; simp; omega
           case hby => simp; omega
           case hbase => first | (have := hgrow1.size; simp at this ⊢; omega)
           intro A2' c2'' w2 hown2 hgrow2 hb2
           have hs2 : SinceOf z.wd w2 := SinceOf.grown Sx hgrow2 (by intro q hq; rw [hq] at hb1; simp [blockOf] at hb1; omega))
        | (refine step_append_row rfl (.tmp 28) (.tmp 31) 57 rfl encN_len (by omega) encN_one i0 _ 8 Tryz.underlying57 hi hz0 hz1 hz2 rfl (l := [] ++ l.take p ++ [n]) (A := A2') (c := c2'') (base := w.heap.size) ?hs ?own (m := l.drop p) (B := if c = p then A else Option.map (fun x => x.add (p * 1)) (A)) (d := c - p) ?hx ?hm ?h63 ?hby ?hbase ?_
           case hs => simp [Act.eval, hple]
           case own => exact hown2
           case hx => simp [Act.eval]
           case hm => exact (R3.out.drop hcap p).of Sx
           case h63 => unfold maxLen; simp; omega
           case hby => simp; omega
           case hbase => have := hs2.size; simp at this ⊢; omega
           intro A3 c3 w3 hown3 hgrow3 hb3
           have hs3 : SinceOf z.wd w3 := SinceOf.grown Sx hgrow3 (by
             have h1 := hs1.size
             intro q hq; rw [hq] at hb3; rw [hq] at hb2
             rcases hb2 with h | h
             · rw [← h] at hb1; simp [blockOf] at hb1; omega
             · simp at h; omega))))
      all_goals go_wp2_with fail
      all_goals go_returns
      all_goals
        refine ⟨A3, c3, ?_, ?_, SinceOf.trans (show SinceOf w z.wd from Sx) hs3⟩
        · rw [HE.out]; simp [hple]; omega
        · rw [HE.out]; simpa using hown3
end Go.Proofs.YtpaojgfmffkodaaGreat
/- Layer 54, the reference: the jobs without slots in their order. -/
namespace Go.Proofs.YtpaojgfmffkodaaGreat
set_option linter.unusedVariables false
set_option linter.unusedSimpArgs false
open Go.RowKit Go.Sort
attribute [local go_sem ↓] Go.wp_at_zero Go.wp_at_succ
theorem insD_at {f : Int → Int} {l : List Int} {n : Int} {k : Nat} (hs : l.Pairwise (fun a b => f a ≤ f b)) (h1 : ∀ j, (h : j < l.length) → k ≤ j → f n < f l[j]) (h2 : k = 0 ∨ ∃ h : k - 1 < l.length, ¬ f n < f l[k - 1]) : insD f n l = l.take k ++ n :: l.drop k := by
  have e : l = l.take k ++ l.drop k := (List.take_append_drop k l).symm
  have := insD_split f n (a := l.take k) (b := l.drop k) (fun x hx => by
    obtain ⟨j, hj, rfl⟩ := List.mem_take_iff_getElem.1 hx
    rcases h2 with h2 | ⟨h2, h3⟩
    · omega
    · rw [List.pairwise_iff_getElem] at hs
      by_cases e : j = k - 1
      · subst e; omega
      · have := hs j (k - 1) (by omega) h2 (by omega)
        omega) (fun x hx => by
    obtain ⟨j, hj, rfl⟩ := List.mem_drop_iff_getElem.1 hx
    exact h1 _ _ (by omega))
  rw [← e] at this
  exact this
set_option maxRecDepth 100000 in
set_option maxHeartbeats 16000000 in
theorem refRest54_any (x : StR) (B : Option Addr) (d : Nat) (l : List SlotR) (w : World) (hx : IsState w x) (hl : IsSlots w B d l) (hll : l.length < 1073741824) (hdr : x.dr.length = x.L.length) (hL : x.L.length < 1000) :
    Calls Tryz.prog 58 #[stateV x, .slice B l.length d] w fun e w' => ∃ (C : Option Addr) (c' : Nat), e = .returned (.slice C (restV (erSt x) l).length c') ∧ Owns encN 1 w.heap.size 3 w' C c' (restV (erSt x) l) ∧ SinceOf w w' := by
  obtain ⟨sx, A, c, L, gA, gc, bg, pA, pc, pd, dA, dc, dr⟩ := x
  obtain ⟨⟨sA, sc, cals, sB, sd, R, most⟩, hsx⟩ : ∃ s, s = sx := ⟨_, rfl⟩
  subst hsx
  simp only at hdr hL
  have hres : restV (erSt ⟨⟨sA, sc, cals, sB, sd, R, most⟩, A, c, L, gA, gc, bg, pA, pc, pd, dA, dc, dr⟩) l = sortD (dueOf L) (freeL (erSt ⟨⟨sA, sc, cals, sB, sd, R, most⟩, A, c, L, gA, gc, bg, pA, pc, pd, dA, dc, dr⟩) l L.length) := by
    unfold restV
    rw [show (erSt ⟨⟨sA, sc, cals, sB, sd, R, most⟩, A, c, L, gA, gc, bg, pA, pc, pd, dA, dc, dr⟩).L = erL L from rfl, erL_length, show dueOf (erL L) = dueOf L from funext fun j => due_er L j]
  rw [hres]
  have hfr : ∀ k, freeJ (erSt ⟨⟨sA, sc, cals, sB, sd, R, most⟩, A, c, L, gA, gc, bg, pA, pc, pd, dA, dc, dr⟩) l k = (!dr.getD k false && !l.any (fun y => y.job == (k : Int))) := fun k => rfl
  have hfs := freeL_succ (erSt ⟨⟨sA, sc, cals, sB, sd, R, most⟩, A, c, L, gA, gc, bg, pA, pc, pd, dA, dc, dr⟩) l
  have hfl := freeL_length_le (erSt ⟨⟨sA, sc, cals, sB, sd, R, most⟩, A, c, L, gA, gc, bg, pA, pc, pd, dA, dc, dr⟩) l
  have hfm := fun k (j : Int) (hj : j ∈ freeL (erSt ⟨⟨sA, sc, cals, sB, sd, R, most⟩, A, c, L, gA, gc, bg, pA, pc, pd, dA, dc, dr⟩) l k) => freeL_mem.1 hj
  have hf0 : freeL (erSt ⟨⟨sA, sc, cals, sB, sd, R, most⟩, A, c, L, gA, gc, bg, pA, pc, pd, dA, dc, dr⟩) l 0 = [] := rfl
  generalize freeL (erSt ⟨⟨sA, sc, cals, sB, sd, R, most⟩, A, c, L, gA, gc, bg, pA, pc, pd, dA, dc, dr⟩) l = F at *
  have hdu : ∀ j : Nat, (h : j < L.length) → dueOf L j = L[j].due := fun j h => by unfold dueOf; rw [jobAt_at h]
  obtain ⟨f, hf⟩ : ∃ f, f = dueOf L := ⟨_, rfl⟩
  rw [← hf] at hdu ⊢
  obtain ⟨i0, hi, hz0, hz1, hz2⟩ := info_parts infoInt
  have HI := Lib.hid (And.intro hi (And.intro hz0 (And.intro hz1 hz2)))
  have H := Lib.hid (And.intro hx.jobs (And.intro hl (And.intro hx.dr (And.intro hfs (And.intro hfl (And.intro hfm (And.intro hfr hdu)))))))
  have HDR := Lib.hid hdr
  show Calls Tryz.prog _ #[.agg #[.slice sA cals.length sc, .slice sB R.length sd, .int .i64 most, .slice A L.length c, .slice gA bg.length gc, .slice pA pd.length pc, .slice dA dr.length dc], .slice B l.length d] w _
  rw [hdr]
  clear hx hl hi hz0 hz1 hz2 hres hfs hfl hfm hfr hdr hdu hf
  go_enter Tryz.func58, Tryz.ntmps58
  go_wp2_with fail
  go_loopg [5, 6] L.length (fun gas s5 s6 wr => ∃ (k : Nat) (C : Option Addr) (c1 : Nat), k ≤ L.length ∧ L.length - k ≤ gas ∧ s5 = .slice C (sortD f (F k)).length c1 ∧ s6 = .int .i64 k ∧ Owns encN 1 (w.heap.size + 1) 3 wr C c1 (sortD f (F k)) ∧ SinceOf (w.alloc (.cells #[.slice sA cals.length sc, .slice sB R.length sd, .int .i64 most, .slice A L.length c, .slice gA bg.length gc, .slice pA pd.length pc, .slice dA L.length dc] 52)) wr)
  case atStart => exact ⟨0, none, 0, by omega, by omega, by rw [hf0]; rfl, rfl, by rw [hf0]; exact Owns.nil _ _ _ _ _, SinceOf.refl _⟩
  case round =>
    obtain ⟨k, C, c1, hk, hgas, rfl, rfl, hown, ⟨z, rfl⟩⟩ := hrel
    by_cases hlt : k < L.length
    · have hs := H.out.2.2.2.1 k
      rw [H.out.2.2.2.2.2.2.1 k] at hs
      have hsz := z.size
      simp at hsz
      have hfk := H.out.2.2.2.2.1 k
      obtain ⟨gd, od, rfl, hrd⟩ := (H.out.2.2.1.of (show SinceOf w z.wd from Sx)).at_ (by have := HDR.out; omega)
      have hOd := hrd.there
      have hkd : k < dr.length := by have := HDR.out; omega
      have d0 : z.wd.cell? ⟨gd, od + k, none⟩ = some (.bool dr[k]) := by
        have := hrd.cells k hkd 0 (.bool dr[k]) rfl
        simpa using this
      rw [List.getD_eq_getElem?_getD, List.getElem?_eq_getElem hkd, Option.getD_some] at hs
      generalize dr[k] = dk at *
      have HC := fun W (hW : SinceOf w W) => refHas54_any B d l k W (H.out.2.1.of hW) (by omega)
      generalize l.any (fun y => y.job == (k : Int)) = lk at *
      have hcap := hown.le_cap
      have hmem : ∀ j ∈ sortD f (F k), 0 ≤ j ∧ j < L.length := fun j hj => by
        obtain ⟨i, rfl, h1, -⟩ := H.out.2.2.2.2.2.1 k j ((sortD_perm f (F k)).mem_iff.1 hj)
        omega
      have hlen : (sortD f (F k)).length ≤ k := by rw [(sortD_perm f (F k)).length_eq]; exact hfk
      have hso := sortD_sorted f (F k)
      have hns : sortD f (F k ++ [(k : Int)]) = insD f k (sortD f (F k)) := sortD_snoc f (F k) k
      obtain ⟨gj, oj, rfl, hrj⟩ := (H.out.1.row.of (show SinceOf w z.wd from Sx)).at_ (by omega)
      clear hrd
      cases dk
      · cases lk
        · have e : F (k + 1) = F k ++ [(k : Int)] := by simpa using hs
          rw [← e] at hns
          obtain ⟨out, hout⟩ : ∃ out, out = sortD f (F k) := ⟨_, rfl⟩
          rw [← hout] at hown hcap hmem hlen hso hns ⊢
          have HS := Lib.hid hns
          have HO := Lib.hid (And.intro hown (And.intro hso hmem))
          have HJ := Lib.hid hrj
          clear hown hso hns hs hout e hmem hrj
          go_wp2_with (go_at_call 56; refine (HC _ Sx).calls.mono ?_; rintro e _ ⟨rfl, z1, rfl⟩)
          go_loopg [7] out.length (fun gas s7 wr => ∃ p : Nat, p ≤ out.length ∧ p ≤ gas ∧ s7 = .int .i64 p ∧ SinceOf z1.wd wr ∧ ∀ j, (h : j < out.length) → p ≤ j → f k < f out[j])
          case atStart => exact ⟨out.length, Nat.le_refl _, Nat.le_refl _, rfl, Sx, fun j h1 h2 => by omega⟩
          case round =>
            obtain ⟨p, hple, hgas2, rfl, ⟨z2, rfl⟩, hup⟩ := hrel
            have hbz : w.heap.size + 1 ≤ z2.wd.heap.size := by
              have h1 := z1.size
              have h2 := z2.size
              (try simp at h1)
              (try simp at h2)
              omega
            have hpc : p ≤ c1 := by omega
            have R3 := Lib.hid ((HO.out.1.isRow encN_len).of (show SinceOf z.wd z2.wd from Sx))
            have hfk2 := H.out.2.2.2.2.2.2.2 k hlt
            by_cases hp : (0 : Int) < (p : Int)
            · obtain ⟨q, hq⟩ : ∃ q : Nat, (p : Int) - 1 = q := ⟨p - 1, by omega⟩
              have hql : q < out.length := by omega
              obtain ⟨vn, hvn⟩ : ∃ vn : Nat, out[q] = (vn : Int) := ⟨out[q].toNat, by have := HO.out.2.2 _ (List.getElem_mem hql); omega⟩
              have hvl : vn < L.length := by have := HO.out.2.2 _ (List.getElem_mem hql); omega
              have hfv := H.out.2.2.2.2.2.2.2 vn hvl
              have hrj2 := RowAt.of HJ.out (show SinceOf z.wd z2.wd from Sx)
              have hOj := hrj2.there
              have q1 := hrj2.j4 k hlt
              have q2 := hrj2.j4 vn hvl
              by_cases he : f k < f out[q]
              · have HU := Lib.hid (show ∀ j, (h : j < out.length) → q ≤ j → f k < f out[j] from fun j h1 h2 => by
                  by_cases e : j = q
                  · subst e; exact he
                  · exact hup j h1 (by omega))
                rw [hvn, hfv, hfk2] at he
                obtain ⟨go, oo, rfl, hr⟩ := R3.out.at_ (by omega)
                have hO := hr.there
                have k0 := hr.n0 q hql
                rw [hvn] at k0
                generalize L[k].due = D1 at *
                generalize L[vn].due = D2 at *
                clear hup hr hvn hfv hfk2 hrj2
                have d1 : decide (0 < p) = true := decide_eq_true (by omega)
                go_wp2_with fail
                refine region_later (by kernel_rfl) (by kernel_rfl) ?_
                repeat (go_big_quiet_step (fail))
                refine wpQuiet_nil ?_
                rintro _ ⟨zq, rfl⟩
                go_wp2_with fail
                go_roundg q
                case measure => omega
                case rel => exact ⟨q, by omega, Nat.le_refl _, by go_num, Sx, HU.out⟩
              · have he2 : ¬ f k < f (out[p - 1]'(by omega)) := by
                  have e : p - 1 = q := by omega
                  simp only [e]
                  exact he
                have HE := Lib.hid (insD_at (k := p) HO.out.2.1 hup (.inr ⟨by omega, he2⟩))
                clear he2
                rw [hvn, hfv, hfk2] at he
                obtain ⟨go, oo, rfl, hr⟩ := R3.out.at_ (by omega)
                have hO := hr.there
                have k0 := hr.n0 q hql
                rw [hvn] at k0
                generalize L[k].due = D1 at *
                generalize L[vn].due = D2 at *
                clear hup hr hvn hfv hfk2 hrj2
                have d1 : decide (0 < p) = true := decide_eq_true (by omega)
                have hbz0 := hbz
                clear R3 hbz
                go_wp2_with fail
                refine region_later (by kernel_rfl) (by kernel_rfl) ?_
                repeat (go_big_quiet_step (fail))
                refine wpQuiet_nil ?_
                rintro _ ⟨zq, rfl⟩
                have R3 := Lib.hid ((HO.out.1.isRow encN_len).of (show SinceOf z.wd zq.wd from Sx))
                have hbz : w.heap.size + 1 ≤ zq.wd.heap.size := by
                  have h9 := zq.size
                  omega
                obtain ⟨hi, hz0, hz1, hz2⟩ := HI.out
                go_wp2_with fail
                go_region_law ((first
                  | (refine step_append_row rfl (.tmp 50) (.tmp 53) 57 rfl encN_len (by omega) encN_one i0 _ 8 Tryz.underlying57 hi hz0 hz1 hz2 rfl (l := []) (c := 0) (base := (w.heap.size + 1)) rfl ?own (m := out.take p) (B := (some ⟨go, oo, none⟩)) (d := c1) ?hx ?hm ?h63 ?hby ?hbase ?_
                     case own => first | exact ownsN_empty _ _ hbz | exact (ownsN_empty _ _ hbz).alloc _ | (have q := ownsN_empty (zq.wd.alloc (.cells #[.int .i64 (k : Int)] 3)) ((w.heap.size + 1)) (by simp; omega); rw [show (zq.wd.alloc (.cells #[.int .i64 (k : Int)] 3)).heap.size = zq.wd.heap.size + 1 from by simp] at q; exact q)
                     case hx => simp [Act.eval, hple]
                     case hm => exact (R3.out.take p).of Sx
                     case h63 => unfold maxLen; simp; omega
                     case hby => simp; omega
                     case hbase => simp; omega
                     intro A1 cq1 w1 hown1 hgrow1 hb1
                     have hs1 : SinceOf zq.wd w1 := SinceOf.grown Sx hgrow1 (by intro q hq; simp [blockOf] at hq; omega))
                  | (refine step_append_row rfl (.tmp 54) (.tmp 56) 57 rfl encN_len (by omega) encN_one i0 _ 8 Tryz.underlying57 hi hz0 hz1 hz2 rfl (l := [] ++ out.take p) (A := A1) (c := cq1) (base := (w.heap.size + 1)) ?hs ?own (m := [(k : Int)]) rfl ?hm ?h63 ?hby ?hbase ?_
                     case hs => simp [Act.eval, hple]
                     case own => first | exact hown1.alloc _ | exact hown1
                     case hm => first
                       | exact ⟨(by intro h; cases h), .inr ⟨_, _, rfl, rowN_one _ _⟩⟩
                       | exact ⟨(by intro h; cases h), .inr ⟨_, _, rfl, RowAt.grown (RowAt.of (rowN_one zq.wd (k : Int)) Sx) hgrow1 (by simp [blockOf])⟩⟩
                       | (have q := rowN_one (zq.wd.alloc (.cells #[] 3)) (k : Int)
                          rw [show (zq.wd.alloc (.cells #[] 3)).heap.size = zq.wd.heap.size + 1 from by simp] at q
                          exact ⟨(by intro h; cases h), .inr ⟨_, _, rfl, RowAt.grown (RowAt.of q Sx) hgrow1 (by simp [blockOf])⟩⟩)
                     case h63 => unfold maxLen; simp; omega
                     case hby => simp; omega
                     case hbase => first | (have := hgrow1.size; simp at this ⊢; omega)
                     intro A2' c2'' w2 hown2 hgrow2 hb2
                     have hs2 : SinceOf zq.wd w2 := SinceOf.grown Sx hgrow2 (by intro q hq; rw [hq] at hb1; simp [blockOf] at hb1; omega))
                  | (refine step_append_row rfl (.tmp 57) (.tmp 60) 57 rfl encN_len (by omega) encN_one i0 _ 8 Tryz.underlying57 hi hz0 hz1 hz2 rfl (l := [] ++ out.take p ++ [(k : Int)]) (A := A2') (c := c2'') (base := (w.heap.size + 1)) ?hs ?own (m := out.drop p) (B := if c1 = p then (some ⟨go, oo, none⟩) else some ⟨go, oo + p, none⟩) (d := c1 - p) ?hx ?hm ?h63 ?hby ?hbase ?_
                     case hs => simp [Act.eval, hple]
                     case own => exact hown2
                     case hx => simp [Act.eval]
                     case hm => have q9 := (R3.out.drop hcap p).of (show SinceOf zq.wd w2 from Sx); simpa [addr_add] using q9
                     case h63 => unfold maxLen; simp; omega
                     case hby => simp; omega
                     case hbase => have := hs2.size; simp at this ⊢; omega
                     intro A3 c3 w3 hown3 hgrow3 hb3
                     have hs3 : SinceOf zq.wd w3 := SinceOf.grown Sx hgrow3 (by
                       have h1 := hs1.size
                       intro q hq; rw [hq] at hb3; rw [hq] at hb2
                       rcases hb2 with h | h
                       · rw [← h] at hb1; simp [blockOf] at hb1; omega
                       · simp at h; omega))))
                all_goals go_wp2_with fail
                all_goals go_roundg (L.length - (k + 1))
                all_goals first
                  | omega
                  | (refine ⟨k + 1, A3, c3, hlt, Nat.le_refl _, ?_, by go_num, ?_, SinceOf.trans (show SinceOf (w.alloc (.cells #[.slice sA cals.length sc, .slice sB R.length sd, .int .i64 most, .slice (some ⟨gj, oj, none⟩) L.length c, .slice gA bg.length gc, .slice pA pd.length pc, .slice (some ⟨gd, od, none⟩) L.length dc] 52)) zq.wd from Sx) hs3⟩
                     · rw [HS.out, HE.out]; simp [hple]; omega
                     · rw [HS.out, HE.out]; simpa using hown3)
            · have HE := Lib.hid (insD_at (k := p) HO.out.2.1 hup (.inl (by omega)))
              clear hup
              have d1 : decide (0 < p) = false := decide_eq_false (by omega)
              have hbz0 := hbz
              clear R3 hbz
              go_wp2_with fail
              refine region_later (by kernel_rfl) (by kernel_rfl) ?_
              repeat (go_big_quiet_step (fail))
              refine wpQuiet_nil ?_
              rintro _ ⟨zq, rfl⟩
              have R3 := Lib.hid ((HO.out.1.isRow encN_len).of (show SinceOf z.wd zq.wd from Sx))
              have hbz : w.heap.size + 1 ≤ zq.wd.heap.size := by
                have h9 := zq.size
                omega
              obtain ⟨hi, hz0, hz1, hz2⟩ := HI.out
              go_wp2_with fail
              go_region_law ((first
                | (refine step_append_row rfl (.tmp 50) (.tmp 53) 57 rfl encN_len (by omega) encN_one i0 _ 8 Tryz.underlying57 hi hz0 hz1 hz2 rfl (l := []) (c := 0) (base := (w.heap.size + 1)) rfl ?own (m := out.take p) (B := C) (d := c1) ?hx ?hm ?h63 ?hby ?hbase ?_
                   case own => first | exact ownsN_empty _ _ hbz | exact (ownsN_empty _ _ hbz).alloc _ | (have q := ownsN_empty (zq.wd.alloc (.cells #[.int .i64 (k : Int)] 3)) ((w.heap.size + 1)) (by simp; omega); rw [show (zq.wd.alloc (.cells #[.int .i64 (k : Int)] 3)).heap.size = zq.wd.heap.size + 1 from by simp] at q; exact q)
                   case hx => simp [Act.eval, hple]
                   case hm => exact (R3.out.take p).of Sx
                   case h63 => unfold maxLen; simp; omega
                   case hby => simp; omega
                   case hbase => simp; omega
                   intro A1 cq1 w1 hown1 hgrow1 hb1
                   have hs1 : SinceOf zq.wd w1 := SinceOf.grown Sx hgrow1 (by intro q hq; simp [blockOf] at hq; omega))
                | (refine step_append_row rfl (.tmp 54) (.tmp 56) 57 rfl encN_len (by omega) encN_one i0 _ 8 Tryz.underlying57 hi hz0 hz1 hz2 rfl (l := [] ++ out.take p) (A := A1) (c := cq1) (base := (w.heap.size + 1)) ?hs ?own (m := [(k : Int)]) rfl ?hm ?h63 ?hby ?hbase ?_
                   case hs => simp [Act.eval, hple]
                   case own => first | exact hown1.alloc _ | exact hown1
                   case hm => first
                     | exact ⟨(by intro h; cases h), .inr ⟨_, _, rfl, rowN_one _ _⟩⟩
                     | exact ⟨(by intro h; cases h), .inr ⟨_, _, rfl, RowAt.grown (RowAt.of (rowN_one zq.wd (k : Int)) Sx) hgrow1 (by simp [blockOf])⟩⟩
                     | (have q := rowN_one (zq.wd.alloc (.cells #[] 3)) (k : Int)
                        rw [show (zq.wd.alloc (.cells #[] 3)).heap.size = zq.wd.heap.size + 1 from by simp] at q
                        exact ⟨(by intro h; cases h), .inr ⟨_, _, rfl, RowAt.grown (RowAt.of q Sx) hgrow1 (by simp [blockOf])⟩⟩)
                   case h63 => unfold maxLen; simp; omega
                   case hby => simp; omega
                   case hbase => first | (have := hgrow1.size; simp at this ⊢; omega)
                   intro A2' c2'' w2 hown2 hgrow2 hb2
                   have hs2 : SinceOf zq.wd w2 := SinceOf.grown Sx hgrow2 (by intro q hq; rw [hq] at hb1; simp [blockOf] at hb1; omega))
                | (refine step_append_row rfl (.tmp 57) (.tmp 60) 57 rfl encN_len (by omega) encN_one i0 _ 8 Tryz.underlying57 hi hz0 hz1 hz2 rfl (l := [] ++ out.take p ++ [(k : Int)]) (A := A2') (c := c2'') (base := (w.heap.size + 1)) ?hs ?own (m := out.drop p) (B := if c1 = p then C else Option.map (fun x => x.add (p * 1)) C) (d := c1 - p) ?hx ?hm ?h63 ?hby ?hbase ?_
                   case hs => simp [Act.eval, hple]
                   case own => exact hown2
                   case hx => simp [Act.eval]
                   case hm => exact (R3.out.drop hcap p).of Sx
                   case h63 => unfold maxLen; simp; omega
                   case hby => simp; omega
                   case hbase => have := hs2.size; simp at this ⊢; omega
                   intro A3 c3 w3 hown3 hgrow3 hb3
                   have hs3 : SinceOf zq.wd w3 := SinceOf.grown Sx hgrow3 (by
                     have h1 := hs1.size
                     intro q hq; rw [hq] at hb3; rw [hq] at hb2
                     rcases hb2 with h | h
                     · rw [← h] at hb1; simp [blockOf] at hb1; omega
                     · simp at h; omega))))
              all_goals go_wp2_with fail
              all_goals go_roundg (L.length - (k + 1))
              all_goals first
                | omega
                | (refine ⟨k + 1, A3, c3, hlt, Nat.le_refl _, ?_, by go_num, ?_, SinceOf.trans (show SinceOf (w.alloc (.cells #[.slice sA cals.length sc, .slice sB R.length sd, .int .i64 most, .slice (some ⟨gj, oj, none⟩) L.length c, .slice gA bg.length gc, .slice pA pd.length pc, .slice (some ⟨gd, od, none⟩) L.length dc] 52)) zq.wd from Sx) hs3⟩
                   · rw [HS.out, HE.out]; simp [hple]; omega
                   · rw [HS.out, HE.out]; simpa using hown3)
        · have e : F (k + 1) = F k := by simpa using hs
          have HO := Lib.hid (And.intro hown e)
          clear hown hs hns hso hmem hrj e
          go_wp2_with (go_at_call 56; refine (HC _ Sx).calls.mono ?_; rintro e _ ⟨rfl, z2, rfl⟩)
          go_roundg (L.length - (k + 1))
          case measure => omega
          case rel => exact ⟨k + 1, C, c1, hlt, Nat.le_refl _, by rw [HO.out.2], by go_num, by rw [HO.out.2]; exact HO.out.1.of Sx, Sx⟩
      · have e : F (k + 1) = F k := by simpa using hs
        have HO := Lib.hid (And.intro hown e)
        clear hown hs hns hso hmem hrj e
        go_wp2_with fail
        go_roundg (L.length - (k + 1))
        case measure => omega
        case rel => exact ⟨k + 1, C, c1, hlt, Nat.le_refl _, by rw [HO.out.2], by go_num, by rw [HO.out.2]; exact HO.out.1.of Sx, Sx⟩
    · have hkl : k = L.length := by omega
      rw [hkl] at hown ⊢
      obtain ⟨fl, hfl⟩ : ∃ fl, fl = sortD f (F L.length) := ⟨_, rfl⟩
      rw [← hfl] at hown ⊢
      have HO := Lib.hid hown
      have HFL := Lib.hid hfl
      clear hown hfl hkl
      go_wp2_with fail
      go_returns
      exact ⟨C, c1, by rw [← HFL.out]; rfl, by rw [← HFL.out]; exact (HO.out.base_le (show w.heap.size ≤ w.heap.size + 1 by omega)).of Sx, Sx⟩
end Go.Proofs.YtpaojgfmffkodaaGreat
