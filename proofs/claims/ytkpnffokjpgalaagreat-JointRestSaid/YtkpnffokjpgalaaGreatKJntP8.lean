/- Layer 46 (plain): what is left of an edge, as the program finds it, is what the reference finds; what is cut once. -/
import Derived.Test.YtkpnffokjpgalaaGreatKJntP5
namespace Go.Proofs.YtkpnffokjpgalaaGreat
set_option linter.unusedVariables false
set_option linter.unusedSimpArgs false

instance (s o : Pt × Pt) (n : Int) : Decidable (stepOver s o n) := inferInstanceAs (Decidable (_ = _))
/-- No other segment covers a step. -/
def freeB (s : Pt × Pt) (others : List (Pt × Pt)) (n : Nat) : Bool := !(others.any (fun o => decide (stepOver s o n)))
def coverL (s : Pt × Pt) (others : List (Pt × Pt)) : List (Int × Int) := others.filterMap (covK s)
/-- The runs of an edge that no others cover, in steps. -/
def runsI (s : Pt × Pt) (others : List (Pt × Pt)) : List (Int × Int) := (stR (freeB s others) (stepsK s.1 s.2).toNat).2
def segI (s : Pt × Pt) (c : Int × Int) : Pt × Pt := (pointK s.1 s.2 c.1, pointK s.1 s.2 c.2)
def leftK (s : Pt × Pt) (others : List (Pt × Pt)) : List (Pt × Pt) := (runsI s others).map (segI s)
theorem cover_mem {s : Pt × Pt} {others : List (Pt × Pt)} (hs : IsSegN s) (ho : ∀ o ∈ others, IsSegN o) {c : Int × Int} (h : c ∈ coverL s others) : 0 ≤ c.1 ∧ c.1 < c.2 ∧ c.2 ≤ stepsK s.1 s.2 := by
  unfold coverL at h
  obtain ⟨o, ho1, ho2⟩ := List.mem_filterMap.1 h
  rcases cov_is hs (ho o ho1) with ⟨x, y, e, h1, h2, h3, -⟩ | ⟨e, -⟩
  · rw [e] at ho2
    obtain rfl := Option.some.inj ho2
    exact ⟨h1, h2, h3⟩
  · rw [e] at ho2; simp at ho2
theorem free_iff {s : Pt × Pt} {others : List (Pt × Pt)} (hs : IsSegN s) (ho : ∀ o ∈ others, IsSegN o) {n : Nat} (hn : (n : Int) < stepsK s.1 s.2) :
    freeB s others n = false ↔ ∃ c ∈ coverL s others, c.1 ≤ (n : Int) ∧ (n : Int) < c.2 := by
  unfold freeB coverL
  simp only [Bool.not_eq_false', List.any_eq_true, decide_eq_true_eq, List.mem_filterMap]
  constructor
  · rintro ⟨o, h1, h2⟩
    rcases cov_is hs (ho o h1) with ⟨x, y, e, -, -, -, h⟩ | ⟨e, h⟩
    · exact ⟨(x, y), ⟨o, h1, e⟩, (h n (by omega) hn).1 h2⟩
    · exact absurd h2 (h n (by omega) hn)
  · rintro ⟨c, ⟨o, h1, h3⟩, h2⟩
    rcases cov_is hs (ho o h1) with ⟨x, y, e, -, -, -, h⟩ | ⟨e, h⟩
    · rw [e] at h3
      obtain rfl := Option.some.inj h3
      exact ⟨o, h1, (h n (by omega) hn).2 h2⟩
    · rw [e] at h3; simp at h3
/-- The program's parts that are left are the reference's runs. -/
theorem left_is {s : Pt × Pt} {others : List (Pt × Pt)} (hs : IsSegN s) (ho : ∀ o ∈ others, IsSegN o) {l : List (Int × Int)} (hp : l.Perm (coverL s others)) (hl : l.Pairwise (fun c d => c.1 ≤ d.1)) :
    runL 0 (l ++ [(stepsK s.1 s.2, stepsK s.1 s.2)]) = runsI s others := by
  have h0 := stepsK_nonneg s.1 s.2
  unfold runsI
  have e : stepsK s.1 s.2 = ((stepsK s.1 s.2).toNat : Int) := by omega
  have := runs_eq (U := freeB s others) (S := (stepsK s.1 s.2).toNat) l 0 hl (fun c hc => by
    have := cover_mem hs ho (hp.mem_iff.1 hc)
    omega) rfl (by omega) (fun n _ h1 => by
      rw [free_iff hs ho (by omega)]
      constructor
      · rintro ⟨c, h2, h3⟩; exact ⟨c, hp.mem_iff.2 h2, h3⟩
      · rintro ⟨c, h2, h3⟩; exact ⟨c, hp.mem_iff.1 h2, h3⟩)
  rw [this, ← e]
  simp [stR]
def edgesO (r : List Pt) : List (Pt × Pt) := (List.range r.length).map (fun i => (at0 r i, rv r (i + 1)))
/-- What is cut once, behind segments that are cut already. -/
def onceF (done : List (Pt × Pt)) : List (List Pt) → List (Pt × Pt)
  | [] => []
  | r :: l => (edgesO r).flatMap (fun s => leftK s done) ++ onceF (done ++ edgesO r) l
theorem IsOk.edge {r : List Pt} (h : IsOk r) {s : Pt × Pt} (hs : s ∈ edgesO r) : IsSegN s := by
  unfold edgesO at hs
  obtain ⟨i, hi, rfl⟩ := List.mem_map.1 hs
  have hi := List.mem_range.1 hi
  exact ⟨h.ne hi, at0_near h.near hi, rv_near h.near (by omega) _⟩
end Go.Proofs.YtkpnffokjpgalaaGreat
