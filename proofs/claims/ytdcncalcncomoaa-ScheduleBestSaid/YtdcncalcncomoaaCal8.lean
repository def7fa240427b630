/- Rows of intervals: Clone, Same, SortFunc; calendars: Equal, Few, Own. -/
import Derived.Test.YtdcncalcncomoaaRows2
import Derived.Test.YtdcncalcncomoaaCal7
namespace Go.Proofs.Ytdcncalcncomoaa
open Go.RowKit Go.Sort
set_option linter.unusedVariables false

theorem infoIv : (Try.prog.info? 73).map (fun i => (i.zero, i.size, i.bytes)) = some (some (.agg #[.int .i64 0, .int .i64 0]), 2, 16) := by kernel_rfl
abbrev OwnIvs (base : Nat) (w : World) (A : Option Addr) (c : Nat) (l : List (Int × Int)) : Prop := Owns encV 2 base 73 w A c l
@[go_sem] theorem eql_ivs_nil (w : World) (A : Option Addr) (n c n' c' : Nat) : (binOp .eql 56 (.slice A n c) (.slice none n' c')).run Try.prog w = .ok (.bool A.isNone) w :=
  Lib.run_eql_slice_nil w _ _ A n c n' c' Try.underlying56

/-- Intervals with starts that a subtraction does not carry past the end of int. -/
abbrev Iv : Type := { p : Int × Int // 0 ≤ p.1 ∧ p.1 ≤ 1000000 }
instance : Inhabited Iv := ⟨⟨(0, 0), by omega⟩⟩
def encI (p : Iv) : List Value := encV p.1
def cmpIv (p q : Iv) : Int := p.1.1 - q.1.1
theorem ltOf_cmpIv (p q : Iv) : ltOf cmpIv p q = decide (p.1.1 < q.1.1) := by unfold ltOf cmpIv; simp; omega
theorem swoIv : SWO (ltOf cmpIv) where
  irrefl x := by rw [ltOf_cmpIv]; simp
  trans x y z h1 h2 := by rw [ltOf_cmpIv] at *; simp at *; omega
  ntrans x y z h1 h2 := by rw [ltOf_cmpIv] at *; simp at *; omega
theorem rowAt_map {α β : Type} {enc : β → List Value} {k : Nat} {w : World} {g off : Nat} (f : α → β) {l : List α} : RowAt enc k w g off (l.map f) ↔ RowAt (fun x => enc (f x)) k w g off l := by
  constructor
  · rintro ⟨h, t⟩; exact ⟨fun i hi j u hu => h i (by simpa using hi) j u (by simpa using hu), t⟩
  · rintro ⟨h, t⟩; exact ⟨fun i hi j u hu => h i (by simpa using hi) j u (by simpa using hu), t⟩
theorem live_map {α β : Type} {enc : β → List Value} {k : Nat} {w : World} {g off : Nat} (f : α → β) {l : List α} : Live enc k w g off (l.map f) ↔ Live (fun x => enc (f x)) k w g off l := by
  constructor
  · rintro ⟨h, t⟩; exact ⟨(rowAt_map f).1 h, by simpa using t⟩
  · rintro ⟨h, t⟩; exact ⟨(rowAt_map f).2 h, by simpa using t⟩
section
variable {P P' : Int} {A B A' B' : Option Addr} {n c m d n' c' m' d' : Nat} {S D S' D' : List (Int × Int)} {w : World}
theorem few_any (h : IsCal w P A n c B m d S D) : Gives Try.prog 52 #[CalV P A n c B m d] w (.bool (decide (S.length ≤ 25) && decide (D.length ≤ 25))) := by
  obtain ⟨rfl, rfl, -, -, h3, h4⟩ := h
  apply Gives.ret
  have key : (decide ((S.length : Int) ≤ 25) = false ∧ (decide (S.length ≤ 25) && decide (D.length ≤ 25)) = false) ∨ (decide ((S.length : Int) ≤ 25) = true ∧ decide ((D.length : Int) ≤ 25) = (decide (S.length ≤ 25) && decide (D.length ≤ 25))) := by
    by_cases h1 : S.length ≤ 25
    · refine .inr ⟨by simp; omega, ?_⟩
      rw [decide_eq_true h1, Bool.true_and, Bool.eq_iff_iff]; simp; omega
    · refine .inl ⟨by simp; omega, ?_⟩
      rw [decide_eq_false h1]; rfl
  rcases key with ⟨k1, e⟩ | ⟨k1, e⟩
  · rw [e]
    clear e
    go_enter Try.func52, Try.ntmps52
    go_wp2_with fail
    go_returns
    exact ⟨rfl, by (repeat (first | (with_reducible exact LaterOf.refl _) | (with_reducible refine LaterOf.alloc ?_ _) | (with_reducible refine LaterOf.drew ?_) | (with_reducible refine LaterOf.drewN ?_ _) | (with_reducible refine LaterOf.later ?_ _) | (with_reducible refine LaterOf.setCell ?_ (by first | exact Nat.le_refl _ | (simp; done) | omega | (simp; omega)) _)))⟩
  · rw [← e]
    clear e
    go_enter Try.func52, Try.ntmps52
    go_wp2_with fail
    go_returns
    exact ⟨rfl, by (repeat (first | (with_reducible exact LaterOf.refl _) | (with_reducible refine LaterOf.alloc ?_ _) | (with_reducible refine LaterOf.drew ?_) | (with_reducible refine LaterOf.drewN ?_ _) | (with_reducible refine LaterOf.later ?_ _) | (with_reducible refine LaterOf.setCell ?_ (by first | exact Nat.le_refl _ | (simp; done) | omega | (simp; omega)) _)))⟩
theorem own_any (P : Int) (A B : Option Addr) (n c m d : Nat) (w : World) : Gives Try.prog 30 #[CalV P A n c B m d] w (CalV P A n c B m d) := by
  apply Gives.ret
  go_enter Try.func30, Try.ntmps30
  go_wp2_with fail
  go_returns
  exact ⟨rfl, by (repeat (first | (with_reducible exact LaterOf.refl _) | (with_reducible refine LaterOf.alloc ?_ _) | (with_reducible refine LaterOf.drew ?_) | (with_reducible refine LaterOf.drewN ?_ _) | (with_reducible refine LaterOf.later ?_ _) | (with_reducible refine LaterOf.setCell ?_ (by first | exact Nat.le_refl _ | (simp; done) | omega | (simp; omega)) _)))⟩
end
end Go.Proofs.Ytdcncalcncomoaa
