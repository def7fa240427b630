/- Layer 54: the reference's Keep. -/
import Derived.Test.YtpaojgfmffkodaaGreatARep21
import Derived.Test.YtpaojgfmffkodaaGreatARep6b
import Derived.Test.YtpaojgfmffkodaaGreatASl
namespace Go.Proofs.YtpaojgfmffkodaaGreat
set_option linter.unusedVariables false
set_option linter.unusedSimpArgs false
open Go.RowKit Go.Sort
attribute [local go_sem ↓] Go.wp_at_zero Go.wp_at_succ
section
variable {w w' : World} {o : Nat} {v0 v1 v2 : Value}
end
theorem ownsRS_empty (W : World) (b : Nat) (hb : b ≤ W.heap.size) : Owns encS 4 b 77 (W.alloc (.cells #[] 77)) (some ⟨W.heap.size, 0, none⟩) 0 [] :=
 World.ownsRow_lit (base := b) (e := 77) (size := 4) W #[] 0 hb (Nat.zero_le _) rfl
theorem infoRSlot : (Tryz.prog.info? 77).map (fun i => (i.zero, i.size, i.bytes)) = some (some (.agg #[.int .i64 0, .int .i64 0, .int .i64 0, .int .i64 0]), 4, 32) := by kernel_rfl
end Go.Proofs.YtpaojgfmffkodaaGreat
/- Layer 54: the reference's insert. -/
namespace Go.Proofs.YtpaojgfmffkodaaGreat
set_option linter.unusedVariables false
set_option linter.unusedSimpArgs false
open Go.RowKit Go.Sort
attribute [local go_sem ↓] Go.wp_at_zero Go.wp_at_succ
theorem insS_at {x : SlotR} : ∀ {l : List SlotR} {p : Nat} (hp : p ≤ l.length), (∀ j, (h : j < l.length) → j < p → leS x l[j] = false) → (p = l.length ∨ ∃ h : p < l.length, leS x l[p] = true) → insS x l = l.take p ++ x :: l.drop p
 | [], p, hp, _, _ => by
   have : p = 0 := by simpa using hp
   subst this
   rfl
 | y :: r, 0, _, _, h => by
   rcases h with h | ⟨h, h2⟩
   · simp at h
   · unfold insS
     rw [if_pos (by simpa using h2)]
     rfl
 | y :: r, p + 1, hp, hb, h => by
   have h0 := hb 0 (by simp) (by omega)
   simp only [List.getElem_cons_zero] at h0
   unfold insS
   rw [h0, if_neg (by decide), insS_at (x := x) (l := r) (p := p) (by simpa using hp) (fun j hj hjp => by
    have := hb (j + 1) (by simpa using hj) (by omega)
    simpa using this) (by
    rcases h with h | ⟨h, h2⟩
    · left; simpa using h
    · right; exact ⟨by simpa using h, by simpa using h2⟩)]
   rfl
theorem leS_no {x y : SlotR} : leS x y = false ↔ y.start < x.start ∨ (y.start = x.start ∧ y.job < x.job) := by
 unfold leS
 cases h1 : decide (x.start < y.start) <;> cases h2 : (x.start == y.start) <;> cases h3 : decide (x.job ≤ y.job) <;> simp at h1 h2 h3 ⊢ <;> omega
theorem insS_len (x : SlotR) (l : List SlotR) : (insS x l).length = l.length + 1 := by have := (insS_perm x l).length_eq; simpa using this
set_option maxRecDepth 100000 in
set_option maxHeartbeats 8000000 in
theorem refInsert54_any (A : Option Addr) (c : Nat) (l : List SlotR) (x : SlotR) (w : World) (h : IsSlots w A c l) (hll : l.length < 1000000) (hcap : l.length ≤ c) :
 Calls Tryz.prog 45 #[.slice A l.length c, slotV x] w fun e w' => ∃ A' c', e = .returned (.slice A' (insS x l).length c') ∧ Owns encS 4 w.heap.size 77 w' A' c' (insS x l) ∧ SinceOf w w' := by
 obtain ⟨i0, hi, hz0, hz1, hz2⟩ := info_parts infoRSlot
 have HI := Lib.hid (And.intro hi (And.intro hz0 (And.intro hz1 hz2)))
 have H := Lib.hid h
 obtain ⟨xj, xm, xs, xe⟩ := x
 show Calls _ _ _ _ _
 clear hi hz0 hz1 hz2 h
 go_enter Tryz.func45, Tryz.ntmps45
 go_wp2_with fail
 go_loopg [5] l.length (fun gas s5 wr => ∃ p : Nat, ∃ (hp : p ≤ l.length), l.length - p ≤ gas ∧ s5 = .int .i64 p ∧ SinceOf (w.alloc (.cells #[.int .i64 xj, .int .i64 xm, .int .i64 xs, .int .i64 xe] 77)) wr ∧ ∀ j, (h : j < l.length) → j < p → leS ⟨xj, xm, xs, xe⟩ l[j] = false)
 case atStart => exact ⟨0, by omega, by omega, rfl, Sx, fun j h1 h2 => by omega⟩
 case round =>
  obtain ⟨p, hple, hgas, rfl, ⟨z, rfl⟩, hup⟩ := hrel
  have hbz := z.size
  simp at hbz
  have hpc : p ≤ c := by omega
  have R3 := Lib.hid (H.out.of (show SinceOf w z.wd from Sx))
  have stop : (p = l.length ∨ ∃ h : p < l.length, leS ⟨xj, xm, xs, xe⟩ l[p] = true) → insS ⟨xj, xm, xs, xe⟩ l = l.take p ++ ⟨xj, xm, xs, xe⟩ :: l.drop p := insS_at hple hup
  have HS := Lib.hid stop
  have more : (hlt : p < l.length) → leS ⟨xj, xm, xs, xe⟩ l[p] = false → ∀ j, (h : j < l.length) → j < p + 1 → leS ⟨xj, xm, xs, xe⟩ l[j] = false := fun hlt hl j h1 h2 => by
   by_cases e : j = p
   · subst e; exact hl
   · exact hup j h1 (by omega)
  have HM := Lib.hid more
  clear hup stop more
  have fin : insS ⟨xj, xm, xs, xe⟩ l = l.take p ++ ⟨xj, xm, xs, xe⟩ :: l.drop p → True := fun _ => trivial
  clear fin
  by_cases hlt : p < l.length
  · obtain ⟨g, off, rfl, hr⟩ := R3.out.at_ (by omega)
    have hO := hr.there
    have s0 := hr.s0 p hlt
    have s1 := hr.s1 p hlt
    have s2 := hr.s2 p hlt
    have s3 := hr.s3 p hlt
    obtain ⟨y, hy⟩ : ∃ y, y = l[p] := ⟨_, rfl⟩
    rw [← hy] at s0 s1 s2 s3
    obtain ⟨yj, ym, ys, ye⟩ := y
    simp only at s0 s1 s2 s3
    have HY := Lib.hid hy
    clear hr hy
    have hlti : ((p : Int) < (l.length : Int)) := by omega
    rcases (show (ys < xs ∨ (¬ ys < xs ∧ ys = xs ∧ yj < xj)) ∨ ((¬ ys < xs ∧ ys = xs ∧ ¬ yj < xj) ∨ (¬ ys < xs ∧ ¬ ys = xs)) by omega) with hc | hc
    · have HL := Lib.hid (HM.out hlt (by rw [← HY.out]; exact leS_no.2 (by show ys < xs ∨ (ys = xs ∧ yj < xj); omega)))
      clear HM
      rcases hc with a | ⟨a, rfl, b⟩
      · have d1 : decide (ys < xs) = true := decide_eq_true a
        go_wp2_with fail
        refine region_later (by kernel_rfl) (by kernel_rfl) ?_
        repeat (go_big_quiet_step (fail))
        refine wpQuiet_nil ?_
        rintro _ ⟨zq, rfl⟩
        go_wp2_with fail
        go_roundg (l.length - (p + 1))
        case measure => omega
        case rel => exact ⟨p + 1, by omega, Nat.le_refl _, by go_num, Sx, HL.out⟩
      · have d1 : decide (ys < ys) = false := decide_eq_false a
        have d2 : (ys == ys) = true := by simp
        have d3 : decide (yj < xj) = true := decide_eq_true b
        go_wp2_with fail
        refine region_later (by kernel_rfl) (by kernel_rfl) ?_
        repeat (go_big_quiet_step (fail))
        refine wpQuiet_nil ?_
        rintro _ ⟨zq, rfl⟩
        go_wp2_with fail
        go_roundg (l.length - (p + 1))
        case measure => omega
        case rel => exact ⟨p + 1, by omega, Nat.le_refl _, by go_num, Sx, HL.out⟩
    · have HE := Lib.hid (HS.out (.inr ⟨hlt, by
       rw [← HY.out]
       cases hb : leS ⟨xj, xm, xs, xe⟩ ⟨yj, ym, ys, ye⟩ with
       | true => rfl
       | false =>
         have := leS_no.1 hb
         simp only at this
         omega⟩))
      clear HM HS
      rcases hc with ⟨a, rfl, b⟩ | ⟨a, b⟩
      · have d1 : decide (ys < ys) = false := decide_eq_false a
        have d2 : (ys == ys) = true := by simp
        have d3 : decide (yj < xj) = false := decide_eq_false b
        go_wp2_with fail
        refine region_later (by kernel_rfl) (by kernel_rfl) ?_
        repeat (go_big_quiet_step (fail))
        refine wpQuiet_nil ?_
        rintro _ ⟨zq, rfl⟩
        have hzq := zq.size
        go_wp2_with (first
         | (at_builtin; refine wpList_append_row rfl (.tmp 43) (.tmp 46) 29 rfl encS_len (by omega) encS_one i0 _ 32 Tryz.underlying29 HI.out.1 HI.out.2.1 HI.out.2.2.1 HI.out.2.2.2 rfl (l := []) (A := some ⟨zq.wd.heap.size, 0, none⟩) (c := 0) (base := w.heap.size) rfl (ownsRS_empty _ _ (by omega)) (B := (some ⟨g, off, none⟩)) (d := c) (m := l.take p) (by simp [Act.eval, hple]) ((R3.out.take p).of Sx) (by unfold maxLen; simp; omega) (by simp; omega) (by simp; omega) ?_
            intro A1 c1 w1 hown1 hgrow1 hb1
            have hs1 : SinceOf zq.wd w1 := SinceOf.grown Sx hgrow1 (by intro q hq; simp [blockOf] at hq; omega)
            have hz1 := hs1.size
            have hB1 := (show SinceOf (w.alloc (.cells #[.int .i64 xj, .int .i64 xm, .int .i64 ys, .int .i64 xe] 77)) zq.wd from Sx).trans hs1
            obtain ⟨y1, rfl⟩ := hB1)
         | (at_builtin; refine wpList_append_row rfl (.tmp 48) (.tmp 50) 29 rfl encS_len (by omega) encS_one i0 _ 32 Tryz.underlying29 HI.out.1 HI.out.2.1 HI.out.2.2.1 HI.out.2.2.2 rfl (l := [] ++ l.take p) (A := A1) (c := c1) (base := w.heap.size) (by simp [Act.eval, hple]) (hown1.of Sx) (m := [⟨xj, xm, ys, xe⟩]) rfl (rowS_at y1.wd _ ⟨xj, xm, ys, xe⟩ _ (by first | rfl | simp)) (by unfold maxLen; simp; omega) (by simp; omega) (by simp; omega) ?_
            intro A2 c2 w2 hown2 hgrow2 hb2
            have hs2 : SinceOf zq.wd w2 := SinceOf.grown (hs1.trans Sx) hgrow2 (by intro q hq; rw [hq] at hb1; simp [blockOf] at hb1; omega)
            have hz2 := hs2.size)
         | (at_builtin; refine wpList_append_row rfl (.tmp 52) (.tmp 55) 29 rfl encS_len (by omega) encS_one i0 _ 32 Tryz.underlying29 HI.out.1 HI.out.2.1 HI.out.2.2.1 HI.out.2.2.2 rfl (l := [] ++ l.take p ++ [⟨xj, xm, ys, xe⟩]) (A := A2) (c := c2) (base := w.heap.size) (by simp [Act.eval, hple]) hown2 (B := some ⟨g, off + p * 4, none⟩) (d := c - p) (m := l.drop p) (by simp [Act.eval]) (by have q9 := (R3.out.drop hcap p).of (show SinceOf z.wd w2 from (show SinceOf z.wd zq.wd from Sx).trans hs2); have hcp : ¬ c = p := (by omega); simpa [addr_add, hcp] using q9) (by unfold maxLen; simp; omega) (by simp; omega) (by omega) ?_
            intro A3 c3 w3 hown3 hgrow3 hb3
            have hs3 : SinceOf zq.wd w3 := SinceOf.grown hs2 hgrow3 (by
             intro q hq; rw [hq] at hb2
             rcases hb2 with h | h
             · rw [← h] at hb1; simp [blockOf] at hb1; omega
             · simp at h; omega)))
        go_returns
        refine ⟨A3, c3, ?_, ?_, SinceOf.trans (show SinceOf w zq.wd from Sx) hs3⟩
        · rw [HE.out]; simp [hple]; omega
        · rw [HE.out]; simpa using hown3
      · have d1 : decide (ys < xs) = false := decide_eq_false a
        have d2 : (ys == xs) = false := by simpa using b
        go_wp2_with fail
        refine region_later (by kernel_rfl) (by kernel_rfl) ?_
        repeat (go_big_quiet_step (fail))
        refine wpQuiet_nil ?_
        rintro _ ⟨zq, rfl⟩
        have hzq := zq.size
        go_wp2_with (first
         | (at_builtin; refine wpList_append_row rfl (.tmp 43) (.tmp 46) 29 rfl encS_len (by omega) encS_one i0 _ 32 Tryz.underlying29 HI.out.1 HI.out.2.1 HI.out.2.2.1 HI.out.2.2.2 rfl (l := []) (A := some ⟨zq.wd.heap.size, 0, none⟩) (c := 0) (base := w.heap.size) rfl (ownsRS_empty _ _ (by omega)) (B := (some ⟨g, off, none⟩)) (d := c) (m := l.take p) (by simp [Act.eval, hple]) ((R3.out.take p).of Sx) (by unfold maxLen; simp; omega) (by simp; omega) (by simp; omega) ?_
            intro A1 c1 w1 hown1 hgrow1 hb1
            have hs1 : SinceOf zq.wd w1 := SinceOf.grown Sx hgrow1 (by intro q hq; simp [blockOf] at hq; omega)
            have hz1 := hs1.size
            have hB1 := (show SinceOf (w.alloc (.cells #[.int .i64 xj, .int .i64 xm, .int .i64 xs, .int .i64 xe] 77)) zq.wd from Sx).trans hs1
            obtain ⟨y1, rfl⟩ := hB1)
         | (at_builtin; refine wpList_append_row rfl (.tmp 48) (.tmp 50) 29 rfl encS_len (by omega) encS_one i0 _ 32 Tryz.underlying29 HI.out.1 HI.out.2.1 HI.out.2.2.1 HI.out.2.2.2 rfl (l := [] ++ l.take p) (A := A1) (c := c1) (base := w.heap.size) (by simp [Act.eval, hple]) (hown1.of Sx) (m := [⟨xj, xm, xs, xe⟩]) rfl (rowS_at y1.wd _ ⟨xj, xm, xs, xe⟩ _ (by first | rfl | simp)) (by unfold maxLen; simp; omega) (by simp; omega) (by simp; omega) ?_
            intro A2 c2 w2 hown2 hgrow2 hb2
            have hs2 : SinceOf zq.wd w2 := SinceOf.grown (hs1.trans Sx) hgrow2 (by intro q hq; rw [hq] at hb1; simp [blockOf] at hb1; omega)
            have hz2 := hs2.size)
         | (at_builtin; refine wpList_append_row rfl (.tmp 52) (.tmp 55) 29 rfl encS_len (by omega) encS_one i0 _ 32 Tryz.underlying29 HI.out.1 HI.out.2.1 HI.out.2.2.1 HI.out.2.2.2 rfl (l := [] ++ l.take p ++ [⟨xj, xm, xs, xe⟩]) (A := A2) (c := c2) (base := w.heap.size) (by simp [Act.eval, hple]) hown2 (B := some ⟨g, off + p * 4, none⟩) (d := c - p) (m := l.drop p) (by simp [Act.eval]) (by have q9 := (R3.out.drop hcap p).of (show SinceOf z.wd w2 from (show SinceOf z.wd zq.wd from Sx).trans hs2); have hcp : ¬ c = p := (by omega); simpa [addr_add, hcp] using q9) (by unfold maxLen; simp; omega) (by simp; omega) (by omega) ?_
            intro A3 c3 w3 hown3 hgrow3 hb3
            have hs3 : SinceOf zq.wd w3 := SinceOf.grown hs2 hgrow3 (by
             intro q hq; rw [hq] at hb2
             rcases hb2 with h | h
             · rw [← h] at hb1; simp [blockOf] at hb1; omega
             · simp at h; omega)))
        go_returns
        refine ⟨A3, c3, ?_, ?_, SinceOf.trans (show SinceOf w zq.wd from Sx) hs3⟩
        · rw [HE.out]; simp [hple]; omega
        · rw [HE.out]; simpa using hown3
  · have HE := Lib.hid (HS.out (.inl (by omega)))
    clear HM HS
    go_wp2_with fail
    refine region_later (by kernel_rfl) (by kernel_rfl) ?_
    repeat (go_big_quiet_step (fail))
    refine wpQuiet_nil ?_
    rintro _ ⟨zq, rfl⟩
    have hzq := zq.size
    go_wp2_with (first
     | (at_builtin; refine wpList_append_row rfl (.tmp 43) (.tmp 46) 29 rfl encS_len (by omega) encS_one i0 _ 32 Tryz.underlying29 HI.out.1 HI.out.2.1 HI.out.2.2.1 HI.out.2.2.2 rfl (l := []) (A := some ⟨zq.wd.heap.size, 0, none⟩) (c := 0) (base := w.heap.size) rfl (ownsRS_empty _ _ (by omega)) (B := A) (d := c) (m := l.take p) (by simp [Act.eval, hple]) ((R3.out.take p).of Sx) (by unfold maxLen; simp; omega) (by simp; omega) (by simp; omega) ?_
        intro A1 c1 w1 hown1 hgrow1 hb1
        have hs1 : SinceOf zq.wd w1 := SinceOf.grown Sx hgrow1 (by intro q hq; simp [blockOf] at hq; omega)
        have hz1 := hs1.size
        have hB1 := (show SinceOf (w.alloc (.cells #[.int .i64 xj, .int .i64 xm, .int .i64 xs, .int .i64 xe] 77)) zq.wd from Sx).trans hs1
        obtain ⟨y1, rfl⟩ := hB1)
     | (at_builtin; refine wpList_append_row rfl (.tmp 48) (.tmp 50) 29 rfl encS_len (by omega) encS_one i0 _ 32 Tryz.underlying29 HI.out.1 HI.out.2.1 HI.out.2.2.1 HI.out.2.2.2 rfl (l := [] ++ l.take p) (A := A1) (c := c1) (base := w.heap.size) (by simp [Act.eval, hple]) (hown1.of Sx) (m := [⟨xj, xm, xs, xe⟩]) rfl (rowS_at y1.wd _ ⟨xj, xm, xs, xe⟩ _ (by first | rfl | simp)) (by unfold maxLen; simp; omega) (by simp; omega) (by simp; omega) ?_
        intro A2 c2 w2 hown2 hgrow2 hb2
        have hs2 : SinceOf zq.wd w2 := SinceOf.grown (hs1.trans Sx) hgrow2 (by intro q hq; rw [hq] at hb1; simp [blockOf] at hb1; omega)
        have hz2 := hs2.size)
     | (at_builtin; refine wpList_append_row rfl (.tmp 52) (.tmp 55) 29 rfl encS_len (by omega) encS_one i0 _ 32 Tryz.underlying29 HI.out.1 HI.out.2.1 HI.out.2.2.1 HI.out.2.2.2 rfl (l := [] ++ l.take p ++ [⟨xj, xm, xs, xe⟩]) (A := A2) (c := c2) (base := w.heap.size) (by simp [Act.eval, hple]) hown2 (B := if c = p then A else Option.map (fun x => x.add (p * 4)) A) (d := c - p) (m := l.drop p) (by simp [Act.eval]) (by exact (R3.out.drop hcap p).of (show SinceOf z.wd w2 from (show SinceOf z.wd zq.wd from Sx).trans hs2)) (by unfold maxLen; simp; omega) (by simp; omega) (by omega) ?_
        intro A3 c3 w3 hown3 hgrow3 hb3
        have hs3 : SinceOf zq.wd w3 := SinceOf.grown hs2 hgrow3 (by
         intro q hq; rw [hq] at hb2
         rcases hb2 with h | h
         · rw [← h] at hb1; simp [blockOf] at hb1; omega
         · simp at h; omega)))
    all_goals go_returns
    all_goals
     refine ⟨A3, c3, ?_, ?_, SinceOf.trans (show SinceOf w zq.wd from Sx) hs3⟩
     · rw [HE.out]; simp [hple]; omega
     · rw [HE.out]; simpa using hown3
end Go.Proofs.YtpaojgfmffkodaaGreat
