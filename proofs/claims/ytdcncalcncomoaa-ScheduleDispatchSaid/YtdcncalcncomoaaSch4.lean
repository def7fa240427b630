/- Layer 52: job, Check. -/
import Derived.Test.YtdcncalcncomoaaSch3
namespace Go.Proofs.Ytdcncalcncomoaa
open Go.RowKit Go.Sort
set_option linter.unusedVariables false
attribute [local go_sem ↓] Go.wp_at_zero Go.wp_at_succ

structure JobR where
  A : Option Addr
  c : Nat
  ms : List Int
  dur : Int
  cls : Int
  rel : Int
  due : Int
  ord : Int
def encJ (j : JobR) : List Value := [.slice j.A j.ms.length j.c, .int .i64 j.dur, .int .i64 j.cls, .int .i64 j.rel, .int .i64 j.due, .int .i64 j.ord]
abbrev jobV (j : JobR) : Value := .agg #[.slice j.A j.ms.length j.c, .int .i64 j.dur, .int .i64 j.cls, .int .i64 j.rel, .int .i64 j.due, .int .i64 j.ord]
structure IsJobs (w : World) (A : Option Addr) (c : Nat) (L : List JobR) : Prop where
  row : IsRow encJ 6 w A c L
  all : ∀ j ∈ L, IsInts w j.A j.c j.ms ∧ j.ms.length < 4611686018427387904
  len : L.length < 4611686018427387904
theorem IsJobs.of {w w' : World} {A : Option Addr} {c : Nat} {L : List JobR} (h : IsJobs w A c L) (hs : SinceOf w w') : IsJobs w' A c L := ⟨h.row.of hs, fun x hx => ⟨(h.all x hx).1.of hs, (h.all x hx).2⟩, h.len⟩
section
variable {w : World} {g off : Nat} {l : List JobR}
theorem RowAt.j0 (h : RowAt encJ 6 w g off l) (i : Nat) (hi : i < l.length) : w.cell? ⟨g, off + i * 6, none⟩ = some (.slice l[i].A l[i].ms.length l[i].c) := h.cells i hi 0 _ rfl
theorem RowAt.j1 (h : RowAt encJ 6 w g off l) (i : Nat) (hi : i < l.length) : w.cell? ⟨g, off + i * 6 + 1, none⟩ = some (.int .i64 l[i].dur) := h.cells i hi 1 _ rfl
theorem RowAt.j2 (h : RowAt encJ 6 w g off l) (i : Nat) (hi : i < l.length) : w.cell? ⟨g, off + i * 6 + 2, none⟩ = some (.int .i64 l[i].cls) := h.cells i hi 2 _ rfl
theorem RowAt.j3 (h : RowAt encJ 6 w g off l) (i : Nat) (hi : i < l.length) : w.cell? ⟨g, off + i * 6 + 3, none⟩ = some (.int .i64 l[i].rel) := h.cells i hi 3 _ rfl
theorem RowAt.j4 (h : RowAt encJ 6 w g off l) (i : Nat) (hi : i < l.length) : w.cell? ⟨g, off + i * 6 + 4, none⟩ = some (.int .i64 l[i].due) := h.cells i hi 4 _ rfl
theorem RowAt.j5 (h : RowAt encJ 6 w g off l) (i : Nat) (hi : i < l.length) : w.cell? ⟨g, off + i * 6 + 5, none⟩ = some (.int .i64 l[i].ord) := h.cells i hi 5 _ rfl
end
/-- Is machine i of a job one of n machines, and greater than the one ahead? -/
def machB (n : Int) (ms : List Int) (i : Nat) : Bool := (decide (0 ≤ ms.getD i 0) && decide (ms.getD i 0 ≤ n - 1)) && !(decide (0 < i) && decide (ms.getD i 0 ≤ ms.getD (i - 1) 0))
def machsB (n : Int) (ms : List Int) : Bool := (List.range ms.length).all (machB n ms)
def restB (k : Int) (j : JobR) : Bool := decide (0 < j.ms.length) && ((decide (1 ≤ j.dur) && decide (j.dur ≤ 10000)) && ((decide (0 ≤ j.cls) && decide (j.cls ≤ k - 1)) && ((decide (0 ≤ j.rel) && decide (j.rel ≤ 1000000)) && ((decide (0 ≤ j.due) && decide (j.due ≤ 1000000)) && (decide (0 ≤ j.ord) && decide (j.ord ≤ 1000))))))
def jobB (s : ShopR) (j : JobR) : Bool := machsB s.cals.length j.ms && restB s.rows.length j
theorem getD_at {l : List Int} {i : Nat} (h : i < l.length) : l.getD i 0 = l[i] := by rw [List.getD_eq_getElem?_getD, List.getElem?_eq_getElem h, Option.getD_some]

set_option maxRecDepth 100000 in
set_option maxHeartbeats 8000000 in
theorem job_any (s : ShopR) (j : JobR) (w : World) (hj : IsInts w j.A j.c j.ms) (hl : j.ms.length < 4611686018427387904) (hcl : s.cals.length < 4611686018427387904) (hrl : s.rows.length < 4611686018427387904) : Gives Try.prog 50 #[shopV s, jobV j] w (.bool (jobB s j)) := by
  apply Gives.ret
  obtain ⟨A, c, cals, B, d, R, most⟩ := s
  obtain ⟨jA, jc, ms, dur, cls, rel, due, ord⟩ := j
  have hjb : jobB ⟨A, c, cals, B, d, R, most⟩ ⟨jA, jc, ms, dur, cls, rel, due, ord⟩ = (machsB cals.length ms && restB R.length ⟨jA, jc, ms, dur, cls, rel, due, ord⟩) := rfl
  rw [hjb]
  simp only at hj hl hcl hrl
  have H := Lib.hid (And.intro hj hjb)
  clear hj hjb
  go_enter Try.func50, Try.ntmps50
  go_wp2_with fail
  go_loopg [10] ms.length (fun gas s10 wr => ∃ i : Nat, i ≤ ms.length ∧ ms.length - i ≤ gas ∧ s10 = .int .i64 i ∧ ((w.alloc (.cells #[.slice A cals.length c, .slice B R.length d, .int .i64 most] 40)).alloc (.cells #[.slice jA ms.length jc, .int .i64 dur, .int .i64 cls, .int .i64 rel, .int .i64 due, .int .i64 ord] 75)) = wr ∧ machsB cals.length ms = ((List.range ms.length).drop i).all (machB cals.length ms))
  case atStart => exact ⟨0, by omega, by omega, rfl, rfl, by rw [List.drop_zero]; rfl⟩
  case round =>
    obtain ⟨i, hi, hgas, rfl, rfl, hm⟩ := hrel
    by_cases hlt : i < ms.length
    · rw [all_range _ hlt] at hm
      have hr := H.out.1.of (((SinceOf.refl w).alloc (.cells #[.slice A cals.length c, .slice B R.length d, .int .i64 most] 40)).alloc (.cells #[.slice jA ms.length jc, .int .i64 dur, .int .i64 cls, .int .i64 rel, .int .i64 due, .int .i64 ord] 75))
      obtain ⟨g, off, rfl, hr⟩ := hr.at_ (by omega)
      have hO := hr.there
      have m0 := hr.n0 i hlt
      have p0 := hr.n0 (i - 1) (by omega)
      rw [← getD_at hlt] at m0
      rw [← getD_at (by omega)] at p0
      have hmb : machB cals.length ms i = ((decide (0 ≤ ms.getD i 0) && decide (ms.getD i 0 ≤ (cals.length : Int) - 1)) && !(decide (0 < i) && decide (ms.getD i 0 ≤ ms.getD (i - 1) 0))) := rfl
      have I1 := fun W => in_any (ms.getD i 0) 0 ((cals.length : Int) - 1) W
      generalize hmv : ms.getD i 0 = mv at *
      generalize hpv : ms.getD (i - 1) 0 = pv at *
      generalize (decide (0 ≤ mv) && decide (mv ≤ (cals.length : Int) - 1)) = q at *
      have hcase : (q = false ∧ machB cals.length ms i = false) ∨ (q = true ∧ i = 0 ∧ machB cals.length ms i = true) ∨ (q = true ∧ 0 < i ∧ decide (0 < i) = true ∧ decide (mv ≤ pv) = true ∧ machB cals.length ms i = false) ∨ (q = true ∧ 0 < i ∧ decide (0 < i) = true ∧ decide (mv ≤ pv) = false ∧ machB cals.length ms i = true) := by
        cases q
        · exact .inl ⟨rfl, by rw [hmb]; rfl⟩
        · by_cases hi0 : i = 0
          · exact .inr (.inl ⟨rfl, hi0, by rw [hmb, hi0]; rfl⟩)
          · have e0 : decide (0 < i) = true := by simp; omega
            cases hle : decide (mv ≤ pv)
            · exact .inr (.inr (.inr ⟨rfl, by omega, e0, rfl, by rw [hmb, e0, hle]; rfl⟩))
            · exact .inr (.inr (.inl ⟨rfl, by omega, e0, rfl, by rw [hmb, e0, hle]; rfl⟩))
      clear hmb hr
      have HM := Lib.hid (And.intro hm (And.intro hmv hpv))
      clear hm hmv hpv
      rcases hcase with ⟨rfl, e⟩ | ⟨rfl, rfl, e⟩ | ⟨rfl, e0, e1, e2, e⟩ | ⟨rfl, e0, e1, e2, e⟩
      · have HE := Lib.hid e
        clear e
        go_wp2_with fail
        refine (I1 _).mono ?_
        rintro e w' ⟨rfl, rfl⟩
        go_wp2_with fail
        go_returns
        exact ⟨by rw [HM.out.1, HE.out]; rfl, by (repeat (first | (with_reducible exact LaterOf.refl _) | (with_reducible refine LaterOf.alloc ?_ _) | (with_reducible refine LaterOf.drew ?_) | (with_reducible refine LaterOf.drewN ?_ _) | (with_reducible refine LaterOf.later ?_ _) | (with_reducible refine LaterOf.setCell ?_ (by first | exact Nat.le_refl _ | (simp; done) | omega | (simp; omega)) _)))⟩
      · have HE := Lib.hid e
        clear e p0
        simp only [Nat.add_zero] at m0
        go_wp2_with fail
        refine (I1 _).mono ?_
        rintro e w' ⟨rfl, rfl⟩
        go_wp2_with fail
        go_roundg (ms.length - (0 + 1))
        case measure => omega
        case rel => exact ⟨0 + 1, hlt, Nat.le_refl _, by go_num, rfl, by rw [HM.out.1, HE.out, Bool.true_and]⟩
      · have HE := Lib.hid e
        clear e
        go_wp2_with fail
        refine (I1 _).mono ?_
        rintro e w' ⟨rfl, rfl⟩
        go_wp2_with fail
        go_returns
        exact ⟨by rw [HM.out.1, HE.out]; rfl, by (repeat (first | (with_reducible exact LaterOf.refl _) | (with_reducible refine LaterOf.alloc ?_ _) | (with_reducible refine LaterOf.drew ?_) | (with_reducible refine LaterOf.drewN ?_ _) | (with_reducible refine LaterOf.later ?_ _) | (with_reducible refine LaterOf.setCell ?_ (by first | exact Nat.le_refl _ | (simp; done) | omega | (simp; omega)) _)))⟩
      · have HE := Lib.hid e
        clear e
        go_wp2_with fail
        refine (I1 _).mono ?_
        rintro e w' ⟨rfl, rfl⟩
        go_wp2_with fail
        go_roundg (ms.length - (i + 1))
        case measure => omega
        case rel => exact ⟨i + 1, hlt, Nat.le_refl _, by go_num, rfl, by rw [HM.out.1, HE.out, Bool.true_and]⟩
    · have hil : i = ms.length := by omega
      rw [hil, all_range_end] at hm
      have hrb : restB R.length ⟨jA, jc, ms, dur, cls, rel, due, ord⟩ = (decide (0 < ms.length) && ((decide (1 ≤ dur) && decide (dur ≤ 10000)) && ((decide (0 ≤ cls) && decide (cls ≤ (R.length : Int) - 1)) && ((decide (0 ≤ rel) && decide (rel ≤ 1000000)) && ((decide (0 ≤ due) && decide (due ≤ 1000000)) && (decide (0 ≤ ord) && decide (ord ≤ 1000))))))) := rfl
      have I1 := fun W => in_any dur 1 10000 W
      have I2 := fun W => in_any cls 0 ((R.length : Int) - 1) W
      have I3 := fun W => in_any rel 0 1000000 W
      have I4 := fun W => in_any due 0 1000000 W
      have I5 := fun W => in_any ord 0 1000 W
      generalize (decide (1 ≤ dur) && decide (dur ≤ 10000)) = q1 at *
      generalize (decide (0 ≤ cls) && decide (cls ≤ (R.length : Int) - 1)) = q2 at *
      generalize (decide (0 ≤ rel) && decide (rel ≤ 1000000)) = q3 at *
      generalize (decide (0 ≤ due) && decide (due ≤ 1000000)) = q4 at *
      generalize (decide (0 ≤ ord) && decide (ord ≤ 1000)) = q5 at *
      have HM := Lib.hid (And.intro hm hrb)
      clear hm hrb hil
      have hcase : (decide (0 < ms.length) = false) ∨ (decide (0 < ms.length) = true ∧ q1 = false) ∨ (decide (0 < ms.length) = true ∧ q1 = true ∧ q2 = false) ∨ (decide (0 < ms.length) = true ∧ q1 = true ∧ q2 = true ∧ q3 = false) ∨ (decide (0 < ms.length) = true ∧ q1 = true ∧ q2 = true ∧ q3 = true ∧ q4 = false) ∨ (decide (0 < ms.length) = true ∧ q1 = true ∧ q2 = true ∧ q3 = true ∧ q4 = true) := by
        cases decide (0 < ms.length) <;> cases q1 <;> cases q2 <;> cases q3 <;> cases q4 <;> simp
      rcases hcase with e0 | ⟨e0, rfl⟩ | ⟨e0, rfl, rfl⟩ | ⟨e0, rfl, rfl, rfl⟩ | ⟨e0, rfl, rfl, rfl, rfl⟩ | ⟨e0, rfl, rfl, rfl, rfl⟩
      all_goals
        go_wp2_with fail
        try (refine (I1 _).mono ?_; rintro e w' ⟨rfl, rfl⟩; go_wp2_with fail)
        try (refine (I2 _).mono ?_; rintro e w' ⟨rfl, rfl⟩; go_wp2_with fail)
        try (refine (I3 _).mono ?_; rintro e w' ⟨rfl, rfl⟩; go_wp2_with fail)
        try (refine (I4 _).mono ?_; rintro e w' ⟨rfl, rfl⟩; go_wp2_with fail)
        try (refine (I5 _).mono ?_; rintro e w' ⟨rfl, rfl⟩; go_wp2_with fail)
        go_returns
        exact ⟨by rw [HM.out.1, HM.out.2, e0]; rfl, by (repeat (first | (with_reducible exact LaterOf.refl _) | (with_reducible refine LaterOf.alloc ?_ _) | (with_reducible refine LaterOf.drew ?_) | (with_reducible refine LaterOf.drewN ?_ _) | (with_reducible refine LaterOf.later ?_ _) | (with_reducible refine LaterOf.setCell ?_ (by first | exact Nat.le_refl _ | (simp; done) | omega | (simp; omega)) _)))⟩
end Go.Proofs.Ytdcncalcncomoaa
