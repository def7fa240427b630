/- Layer 46 (plain): is a ring valid? -/
import Derived.Test.YtkpnffokjpgalaaGreatKJnt13
import Derived.Test.YtkpnffokjpgalaaGreatKJntP8
import Derived.Test.YtkpnffokjpgalaaGreatKJntP3
namespace Go.Proofs.YtkpnffokjpgalaaGreat
set_option linter.unusedVariables false
set_option linter.unusedSimpArgs false

def turnsB (r : List Pt) : Bool := (List.range r.length).all fun i => decide (det (at0 r i) (rv r (i + 1)) (rv r (i + 2)) ≠ 0)
def meetE (r : List Pt) (i k : Nat) : Int := (meetK (at0 r i) (rv r (i + 1)) (at0 r k) (rv r (k + 1))).1
instance (n i k : Nat) : Decidable (farE n i k) := inferInstanceAs (Decidable (_ ∧ _ ∧ _))
def pairsB (r : List Pt) : Bool := (List.range r.length).all fun i => (List.range r.length).all fun k => !(decide (farE r.length i k)) || decide (meetE r i k = 0)
/-- Is a ring valid? -/
def okB (r : List Pt) : Bool := decide (3 ≤ r.length) && (decide (r.length ≤ 40) && (nearR r && (decide (0 < area2V r) && (turnsB r && pairsB r))))
theorem turnsB_iff {r : List Pt} : turnsB r = true ↔ ∀ i, i < r.length → det (at0 r i) (rv r (i + 1)) (rv r (i + 2)) ≠ 0 := by
  unfold turnsB
  simp only [List.all_eq_true, List.mem_range, decide_eq_true_eq]
theorem pairsB_iff {r : List Pt} : pairsB r = true ↔ ∀ i k, k < r.length → farE r.length i k → meetE r i k = 0 := by
  unfold pairsB
  simp only [List.all_eq_true, List.mem_range, Bool.or_eq_true, Bool.not_eq_true', decide_eq_false_iff_not, decide_eq_true_eq]
  constructor
  · intro h i k hk hf
    exact (h i (by have := hf.1; omega) k hk).resolve_left (fun e => e hf)
  · intro h i hi k hk
    by_cases hf : farE r.length i k
    · exact .inr (h i k hk hf)
    · exact .inl hf
theorem okB_iff {r : List Pt} : okB r = true ↔ IsOk r := by
  unfold okB
  simp only [Bool.and_eq_true, decide_eq_true_eq, turnsB_iff, pairsB_iff]
  constructor
  · rintro ⟨h1, h2, h3, h4, h5, h6⟩
    exact ⟨h1, h2, List.all_eq_true.1 h3, h5, h6, h4⟩
  · rintro ⟨h1, h2, h3, h4, h5, h6⟩
    exact ⟨h1, h2, List.all_eq_true.2 h3, h6, h4, h5⟩
theorem okB_len {r : List Pt} (h : ¬ (3 ≤ r.length ∧ r.length ≤ 40)) : okB r = false := by
  rw [← Bool.not_eq_true, okB_iff]; exact fun e => h ⟨e.three, e.most⟩
theorem okB_near {r : List Pt} (h : nearR r = false) : okB r = false := by
  rw [← Bool.not_eq_true, okB_iff]; exact fun e => by (have := List.all_eq_true.2 e.near; unfold nearR at h; rw [this] at h; cases h)
theorem okB_area {r : List Pt} (h : ¬ 0 < area2V r) : okB r = false := by
  rw [← Bool.not_eq_true, okB_iff]; exact fun e => h e.area
theorem okB_turn {r : List Pt} (h3 : 3 ≤ r.length) {i : Nat} (hi : i < r.length) (h : det (rv r (i + r.length - 1)) (at0 r i) (rv r (i + 1)) = 0) : okB r = false := by
  rw [← Bool.not_eq_true, okB_iff]; exact fun e => (turns_around h3).2 e.turn i hi h
theorem okB_turn' {r : List Pt} {i : Nat} (hi : i < r.length) (h : det (at0 r i) (rv r (i + 1)) (rv r (i + 2)) = 0) : okB r = false := by
  rw [← Bool.not_eq_true, okB_iff]; exact fun e => e.turn i hi h
theorem okB_far {r : List Pt} {i k : Nat} (hk : k < r.length) (hf : farE r.length i k) (h : meetE r i k ≠ 0) : okB r = false := by
  rw [← Bool.not_eq_true, okB_iff]; exact fun e => h (e.far i k hk hf)
theorem okB_pair {r : List Pt} {i k : Nat} (hk : k < r.length) (hik : i < k) (h : ¬ pairR r i k) : okB r = false := by
  rw [← Bool.not_eq_true, okB_iff]; exact fun e => h (e.pair hk hik)
end Go.Proofs.YtkpnffokjpgalaaGreat
/- Layer 46 (plain): what is cut once, ring by ring. -/
namespace Go.Proofs.YtkpnffokjpgalaaGreat
set_option linter.unusedVariables false
set_option linter.unusedSimpArgs false

theorem edgesV_O {r : List Pt} (h : 2 ≤ r.length) : edgesV r = edgesO r := by unfold edgesV edgesO; rw [if_neg (by omega)]
def cutL (rs : List (List Pt)) : List SegP := rs.flatMap edgesO
theorem cutL_snoc (rs : List (List Pt)) (r : List Pt) : cutL (rs ++ [r]) = cutL rs ++ edgesO r := by unfold cutL; simp
def leftAll (done E : List SegP) : List SegP := E.flatMap fun s => leftK s done
theorem leftAll_snoc (done E : List SegP) (s : SegP) : leftAll done (E ++ [s]) = leftAll done E ++ leftK s done := by unfold leftAll; simp
theorem onceF_snoc : ∀ (rs : List (List Pt)) (d : List SegP) (r : List Pt), onceF d (rs ++ [r]) = onceF d rs ++ leftAll (d ++ cutL rs) (edgesO r)
  | [], d, r => by simp [onceF, cutL, leftAll]
  | q :: rs, d, r => by
    have e : cutL (q :: rs) = edgesO q ++ cutL rs := by unfold cutL; rw [List.flatMap_cons]
    have ih := onceF_snoc rs (d ++ edgesO q) r
    simp only [List.cons_append, onceF]
    rw [ih, e, List.append_assoc, List.append_assoc]
theorem setB_len (l : List (Int × Int)) (y : Int) : (setB l y).length = l.length := by
  unfold setB
  split
  · rfl
  · rename_i c h
    have : l ≠ [] := fun e => by rw [e] at h; simp at h
    have := List.length_pos_iff.2 this
    simp; omega
theorem stR_len (U : Nat → Bool) : ∀ n, (stR U n).2.length ≤ n
  | 0 => Nat.le_refl _
  | n + 1 => by
    have := stR_len U n
    unfold stR
    split
    · simp only; omega
    · split
      · simp only; rw [setB_len]; omega
      · simp only [List.length_append, List.length_cons, List.length_nil]; omega
theorem leftK_len (s : SegP) (others : List SegP) : (leftK s others).length ≤ (stepsK s.1 s.2).toNat := by
  unfold leftK runsI
  rw [List.length_map]
  exact stR_len _ _
/-- The segments of rings that are cut once, and the error's number. -/
def onceR (rs : List (List Pt)) : List SegP × Int := if 120 < rs.length then ([], 9) else if rs.all okB then (onceF [] rs, 0) else ([], 11)
theorem cutL_len {rs : List (List Pt)} (h : ∀ r ∈ rs, okB r = true) : (cutL rs).length ≤ rs.length * 40 := by
  induction rs with
  | nil => simp [cutL]
  | cons r rs ih =>
    have h1 := ih fun q hq => h q (by simp [hq])
    have h2 := (okB_iff.1 (h r (by simp))).most
    unfold cutL at *
    rw [List.flatMap_cons, List.length_append, List.length_cons, Nat.succ_mul]
    have : (edgesO r).length = r.length := by unfold edgesO; simp
    omega
theorem cutL_edge {rs : List (List Pt)} (h : ∀ r ∈ rs, okB r = true) : ∀ s ∈ cutL rs, IsSegN s := by
  intro s hs
  unfold cutL at hs
  obtain ⟨r, hr, hs⟩ := List.mem_flatMap.1 hs
  exact (okB_iff.1 (h r hr)).edge hs
theorem okB_edgeN {r : List Pt} (h : okB r = true) : edgesV r = edgesO r ∧ (∀ s ∈ edgesV r, IsSegN s) := by
  have hk := okB_iff.1 h
  have e := edgesV_O (r := r) (by have := hk.three; omega)
  exact ⟨e, fun s hs => hk.edge (by rw [← e]; exact hs)⟩
end Go.Proofs.YtkpnffokjpgalaaGreat
/- Layer 46 (plain): steps of segments; what the reference's loop over them does. -/
namespace Go.Proofs.YtkpnffokjpgalaaGreat
set_option linter.unusedVariables false
set_option linter.unusedSimpArgs false

def covB (s : SegP) (rs : List (List Pt)) : Bool := rs.any fun r => (edgesV r).any fun o => decide (meetI s o = 3)
theorem inX_near {a b p : Pt} (ha : near4 a) (hb : near4 b) (h : inX a b p) : near4 p := by
  unfold near4 inX imin imax at *
  obtain ⟨h1, h2, h3, h4⟩ := h
  split at h1 <;> split at h2 <;> split at h3 <;> split at h4 <;> omega
theorem point_near {s : SegP} (hs : IsSegN s) {k : Int} (h0 : 0 ≤ k) (h1 : k ≤ stepsK s.1 s.2) : near4 (pointK s.1 s.2 k) :=
  inX_near hs.2.1 hs.2.2 (step_on hs.1 h0 h1).1
/-- A step of an edge is covered, or it is free. -/
theorem cov_free {s : SegP} (hs : IsSegN s) {rs : List (List Pt)} (hr : ∀ r ∈ rs, okB r = true) {n : Nat} (hn : (n : Int) < stepsK s.1 s.2) : covB (segI s ((n : Int), (n : Int) + 1)) rs = !freeB s (cutL rs) n := by
  have n1 := point_near hs (k := (n : Int)) (by omega) (by omega)
  have n2 := point_near hs (k := (n : Int) + 1) (by omega) (by omega)
  unfold freeB covB
  rw [Bool.not_not]
  apply Bool.eq_iff_iff.2
  simp only [List.any_eq_true, decide_eq_true_eq]
  constructor
  · rintro ⟨r, h1, o, h2, h3⟩
    obtain ⟨e1, e2⟩ := okB_edgeN (hr r h1)
    refine ⟨o, ?_, ?_⟩
    · unfold cutL; exact List.mem_flatMap.2 ⟨r, h1, by rw [← e1]; exact h2⟩
    · rw [meetI_K (segOk_near.2 ⟨n1, n2⟩) (segOk_near.2 (e2 o h2).2)] at h3
      exact h3
  · rintro ⟨o, h1, h3⟩
    unfold cutL at h1
    obtain ⟨r, h1, h2⟩ := List.mem_flatMap.1 h1
    obtain ⟨e1, e2⟩ := okB_edgeN (hr r h1)
    rw [← e1] at h2
    refine ⟨r, h1, o, h2, ?_⟩
    rw [meetI_K (segOk_near.2 ⟨n1, n2⟩) (segOk_near.2 (e2 o h2).2)]
    exact h3
theorem stR_open {U : Nat → Bool} : ∀ {n : Nat}, (stR U n).1 = true → ∃ l x, (stR U n).2 = l ++ [(x, (n : Int))]
  | 0, h => by simp [stR] at h
  | n + 1, h => by
    unfold stR at h ⊢
    split
    · rename_i h1; rw [if_pos h1] at h; simp at h
    · split
      · rename_i h1 h2
        obtain ⟨l, x, e⟩ := stR_open h2
        refine ⟨l, x, ?_⟩
        simp only
        rw [e, setB_push]
        rfl
      · rename_i h1 h2
        exact ⟨(stR U n).2, (n : Int), rfl⟩
theorem stR_cov {U : Nat → Bool} {n : Nat} (h : U n = false) : stR U (n + 1) = (false, (stR U n).2) := by rw [stR, if_pos h]
theorem stR_go {U : Nat → Bool} {n : Nat} (h : U n = true) (h1 : (stR U n).1 = true) : stR U (n + 1) = (true, setB (stR U n).2 ((n : Int) + 1)) := by rw [stR, if_neg (by rw [h]; simp), if_pos h1]
theorem stR_new {U : Nat → Bool} {n : Nat} (h : U n = true) (h1 : (stR U n).1 = false) : stR U (n + 1) = (true, (stR U n).2 ++ [((n : Int), (n : Int) + 1)]) := by rw [stR, if_neg (by rw [h]; simp), if_neg (by rw [h1]; simp)]
end Go.Proofs.YtkpnffokjpgalaaGreat
