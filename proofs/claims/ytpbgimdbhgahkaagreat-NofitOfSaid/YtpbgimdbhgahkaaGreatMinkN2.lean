/- Layer 15 (plain): hulls of hulls; moved and negated rings; the sizes of sums. -/
import Derived.Test.YtpbgimdbhgahkaaGreatMinkL2
namespace Go.Proofs.YtpbgimdbhgahkaaGreat
open Go.RowKit Go.Sort
set_option linter.unusedVariables false
set_option linter.unusedSimpArgs false

theorem near_mono {m n : Int} (h : m ≤ n) {p : Pt} (hp : near m p) : near n p := by unfold near at *; omega
theorem lin_first {P r : List Pt} (h : HullY P r) (hn : ∀ q ∈ P, near 20000 q) : ∀ q ∈ P, lin 1 40001 (at0 r 0) ≤ lin 1 40001 q := fun q hq => by
  have h0 := hn _ (h.hull.sub _ (at0_mem (i := 0) (by have := h.hull.three; omega)))
  rcases h.first q hq with e | e
  · rw [e]; exact Int.le_refl _
  · exact Int.le_of_lt (lexy_lin h0 (hn q hq) e)
/-- More points that are not lower in any direction. -/
theorem HullY.ext {P Q r : List Pt} (h : HullY P r) (hP : ∀ q ∈ P, near 20000 q) (hQ : ∀ q ∈ Q, near 20000 q) (hs : ∀ v ∈ r, v ∈ Q) (hl : ∀ K L : Int, ∀ q ∈ Q, ∃ p ∈ P, lin K L p ≤ lin K L q) : HullY Q r := by
  have h3 := h.hull.three
  refine ⟨⟨h3, h.hull.convex, fun i hi q hq => ?_, hs⟩, fun q hq => ?_⟩
  · obtain ⟨K, L, c, _, hf⟩ := edge_form h.hull.cv h3 hi
    obtain ⟨p, hp, le⟩ := hl K L q hq
    have := h.hull.left i hi p hp
    rw [hf] at *
    omega
  · obtain ⟨p, hp, le⟩ := hl 1 40001 q hq
    have := lin_first h hP p hp
    exact lin_lexy' (hQ _ (hs _ (at0_mem (i := 0) (by omega)))) (hQ q hq) (by omega)
theorem sums_hull1 {A c u x : List Pt} {m n : Int} (hm : m + n ≤ 20000) (h : HullY A u) (hA : ∀ q ∈ A, near m q) (hc : ∀ q ∈ c, near n q) (hx : HullY (sums2 u c) x) : HullY (sums2 A c) x := by
  have nr : ∀ {a b : Pt}, near m a → near n b → near 20000 (addP a b) := fun ha hb => by unfold near addP at *; simp only; omega
  refine hx.ext (fun q hq => ?_) (fun q hq => ?_) (fun v hv => ?_) (fun K L q hq => ?_)
  · obtain ⟨a, ha, b, hb, rfl⟩ := mem_sums2.1 hq; exact nr (hA a (h.hull.sub a ha)) (hc b hb)
  · obtain ⟨a, ha, b, hb, rfl⟩ := mem_sums2.1 hq; exact nr (hA a ha) (hc b hb)
  · obtain ⟨a, ha, b, hb, e⟩ := mem_sums2.1 (hx.hull.sub v hv); exact mem_sums2.2 ⟨a, h.hull.sub a ha, b, hb, e⟩
  · obtain ⟨a, ha, b, hb, rfl⟩ := mem_sums2.1 hq
    obtain ⟨i, hi, hl⟩ := h.hull.least K L
    exact ⟨addP (at0 u i) b, mem_sums2.2 ⟨_, at0_mem hi, b, hb, rfl⟩, by rw [lin_add, lin_add]; have := hl a ha; omega⟩
theorem addP_comm (p q : Pt) : addP p q = addP q p := by unfold addP; exact Prod.ext (by simp only; omega) (by simp only; omega)
theorem addP_assoc (p q s : Pt) : addP (addP p q) s = addP p (addP q s) := by unfold addP; exact Prod.ext (by simp only; omega) (by simp only; omega)
theorem HullY.swap {a b x : List Pt} (h : HullY (sums2 a b) x) : HullY (sums2 b a) x := by
  have hm : ∀ q, q ∈ sums2 b a → q ∈ sums2 a b := fun q hq => by
    obtain ⟨p, hp, s, hs, rfl⟩ := mem_sums2.1 hq
    exact mem_sums2.2 ⟨s, hs, p, hp, addP_comm _ _⟩
  have hm2 : ∀ q, q ∈ sums2 a b → q ∈ sums2 b a := fun q hq => by
    obtain ⟨p, hp, s, hs, rfl⟩ := mem_sums2.1 hq
    exact mem_sums2.2 ⟨s, hs, p, hp, addP_comm _ _⟩
  exact h.more hm (fun v hv => hm2 v (h.hull.sub v hv))
theorem sums_hull2 {a C u x : List Pt} {m n : Int} (hm : m + n ≤ 20000) (h : HullY C u) (hC : ∀ q ∈ C, near m q) (ha : ∀ q ∈ a, near n q) (hx : HullY (sums2 a u) x) : HullY (sums2 a C) x := (sums_hull1 hm h hC ha hx.swap).swap
theorem sums_assoc {a b c x : List Pt} (h : HullY (sums2 (sums2 a b) c) x) : HullY (sums2 a (sums2 b c)) x := by
  have hm : ∀ q, q ∈ sums2 a (sums2 b c) ↔ q ∈ sums2 (sums2 a b) c := fun q => by
    rw [mem_sums2, mem_sums2]
    constructor
    · rintro ⟨p, hp, t, ht, rfl⟩
      obtain ⟨y, hy, z, hz, rfl⟩ := mem_sums2.1 ht
      exact ⟨addP p y, mem_sums2.2 ⟨p, hp, y, hy, rfl⟩, z, hz, (addP_assoc _ _ _).symm⟩
    · rintro ⟨t, ht, z, hz, rfl⟩
      obtain ⟨p, hp, y, hy, rfl⟩ := mem_sums2.1 ht
      exact ⟨p, hp, addP y z, mem_sums2.2 ⟨y, hy, z, hz, rfl⟩, addP_assoc _ _ _⟩
  exact h.more (fun q hq => (hm q).1 hq) (fun v hv => (hm v).2 (h.hull.sub v hv))
/-- The hull of sums has not more vertices than both rings together. -/
theorem sums_len {r s u : List Pt} (hr : Conv15 r) (hs : Conv15 s) (hu : HullY (sums2 r s) u) : u.length ≤ r.length + s.length := by
  have mk : ∀ {r : List Pt}, Conv15 r → ∃ k, k < r.length ∧ ∀ j, j < r.length → ¬ lexy (at0 r j) (at0 r k) := fun {r} hr => by
    have h3 := hr.1
    obtain ⟨k, hk, hm⟩ := exists_least (lin 1 40001) (r := r) (by intro e; rw [e] at h3; simp at h3)
    refine ⟨k, hk, fun j hj hl => ?_⟩
    have n1 := hr.2.2.1 _ (at0_mem hj)
    have n2 := hr.2.2.1 _ (at0_mem hk)
    have := lexy_lin (by unfold near at *; omega) (by unfold near at *; omega) hl
    have := hm _ (at0_mem hj)
    omega
  obtain ⟨k, hk, h1⟩ := mk hr
  obtain ⟨m, hm, h2⟩ := mk hs
  have l1 := rotL_length (r := r) (Nat.le_of_lt hk)
  have l2 := rotL_length (r := s) (Nat.le_of_lt hm)
  have d1 := dirs_dir (n := r.length) hr hk
  have d2 := dirs_dir (n := s.length) hs hm
  have hd : ∀ x ∈ dirsK (rotL k r) r.length ++ dirsK (rotL m s) s.length, Dir16 x := fun x hx => by
    rcases List.mem_append.1 hx with q | q
    · exact d1 x q
    · exact d2 x q
  obtain ⟨s1, s2⟩ := insertion_spec ord_elt (a := 0) (b := (dirsK (rotL k r) r.length ++ dirsK (rotL m s) s.length).length) (dirsK (rotL k r) r.length ++ dirsK (rotL m s) s.length) (fun x hx => (hd x hx).dir) (Nat.le_refl _)
  generalize (insertionSort elt _ _ _).toList = T at s1 s2
  have M : Merged (rotL k r) (rotL m s) T := ⟨conv_begun hr hk h1, conv_begun hs hm h2, by rw [l1, l2]; exact s1.perm, by rw [s1.len]; exact s2⟩
  have H := M.hull
  have := hu.unique (H.more (fun q hq => (mem_sums2_rot q).2 hq) (fun v hv => (mem_sums2_rot v).1 (H.hull.sub v hv)))
  rw [this, outV_len]
  have h5 : (news T).length ≤ (List.range T.length).length := List.length_filter_le _ _
  rw [List.length_range, M.len, l1, l2] at h5
  exact h5
theorem sums_near {r s u : List Pt} {m n : Int} (hr : ∀ p ∈ r, near m p) (hs : ∀ p ∈ s, near n p) (hu : HullY (sums2 r s) u) : ∀ p ∈ u, near (m + n) p := fun p hp => by
  obtain ⟨a, ha, b, hb, rfl⟩ := mem_sums2.1 (hu.hull.sub p hp)
  have := hr a ha
  have := hs b hb
  unfold near addP at *
  simp only
  omega
/-- Where a sum of small rings is right. -/
theorem sum_ok {r s : List Pt} {m n : Int} (hmn : m + n ≤ 8000) (hr : Conv15 r) (hs : Conv15 s) (nr : ∀ p ∈ r, near m p) (ns : ∀ p ∈ s, near n p) (hl : r.length + s.length ≤ 160) {out : List Pt × Int} (h : SumV r s out) : out.2 = 0 ∧ HullY (sums2 r s) out.1 ∧ Conv15 out.1 ∧ (∀ p ∈ out.1, near (m + n) p) ∧ out.1.length ≤ r.length + s.length := by
  obtain ⟨u, hu, rfl⟩ := (SumV.yes (validB_iff.2 hr) (validB_iff.2 hs)).1 h
  have l := sums_len hr hs hu
  have nu := sums_near nr ns hu
  have hin : u.all inV = true := List.all_eq_true.2 fun p hp => inV_near.2 (near_mono hmn (nu p hp))
  rcases checked_cases u with ⟨e, a, b⟩ | ⟨e, b⟩ | ⟨e, b⟩
  · rw [e]; exact ⟨rfl, hu, (hullY_canon hu a b).1, nu, l⟩
  · omega
  · rw [b] at hin; cases hin

def negP (p : Pt) : Pt := (-p.1, -p.2)
theorem at0_map {r : List Pt} {f : Pt → Pt} {i : Nat} (h : i < r.length) : at0 (r.map f) i = f (at0 r i) := by
  rw [at0_eq (by simpa using h), at0_eq h]; simp
theorem rv_map {r : List Pt} {f : Pt → Pt} (h : 0 < r.length) (i : Nat) : rv (r.map f) i = f (rv r i) := by
  unfold rv; rw [List.length_map, at0_map (Nat.mod_lt _ h)]
theorem ConvexI.mapD {r : List Pt} {f : Pt → Pt} (h : ConvexI r) (hf : ∀ a b c, det (f a) (f b) (f c) = det a b c) : ConvexI (r.map f) := fun i hi k hk h1 h2 => by
  rw [List.length_map] at *
  rw [at0_map hi, rv_map (by omega), at0_map hk, hf]
  exact h i hi k hk h1 h2
theorem det_neg (a b c : Pt) : det (negP a) (negP b) (negP c) = det a b c := by unfold det negP; grind
theorem det_mov (v a b c : Pt) : det (addP a v) (addP b v) (addP c v) = det a b c := by unfold det addP; grind
theorem lin_neg' (K L : Int) (p : Pt) : lin K L (negP p) = lin (-K) (-L) p := by unfold lin negP; grind
/-- The hull of moved points. -/
theorem map_hull {A u x : List Pt} {f : Pt → Pt} (hf : ∀ K L : Int, ∃ K' L' c : Int, ∀ p, lin K L (f p) = lin K' L' p + c) (h : HullY A u) (hx : HullY (u.map f) x) (hA : ∀ q ∈ A, near 20000 (f q)) : HullY (A.map f) x := by
  refine hx.ext (fun q hq => ?_) (fun q hq => ?_) (fun v hv => ?_) (fun K L q hq => ?_)
  · obtain ⟨p, hp, rfl⟩ := List.mem_map.1 hq; exact hA p (h.hull.sub p hp)
  · obtain ⟨p, hp, rfl⟩ := List.mem_map.1 hq; exact hA p hp
  · obtain ⟨p, hp, e⟩ := List.mem_map.1 (hx.hull.sub v hv); exact List.mem_map.2 ⟨p, h.hull.sub p hp, e⟩
  · obtain ⟨p, hp, rfl⟩ := List.mem_map.1 hq
    obtain ⟨K', L', c, e⟩ := hf K L
    obtain ⟨i, hi, hl⟩ := h.hull.least K' L'
    exact ⟨f (at0 u i), List.mem_map.2 ⟨_, at0_mem hi, rfl⟩, by rw [e, e]; have := hl p hp; omega⟩
theorem lin_f_neg (K L : Int) : ∃ K' L' c : Int, ∀ p, lin K L (negP p) = lin K' L' p + c := ⟨-K, -L, 0, fun p => by rw [lin_neg']; omega⟩
theorem lin_f_mov (v : Pt) (K L : Int) : ∃ K' L' c : Int, ∀ p, lin K L (addP p v) = lin K' L' p + c := ⟨K, L, lin K L v, fun p => lin_add K L p v⟩
theorem sums_neg {a b x : List Pt} (h : HullY ((sums2 a b).map negP) x) : HullY (sums2 (a.map negP) (b.map negP)) x := by
  have hm : ∀ q, q ∈ sums2 (a.map negP) (b.map negP) ↔ q ∈ (sums2 a b).map negP := fun q => by
    rw [mem_sums2, List.mem_map]
    constructor
    · rintro ⟨p, hp, t, ht, rfl⟩
      obtain ⟨y, hy, rfl⟩ := List.mem_map.1 hp
      obtain ⟨z, hz, rfl⟩ := List.mem_map.1 ht
      exact ⟨addP y z, mem_sums2.2 ⟨y, hy, z, hz, rfl⟩, by unfold negP addP; exact Prod.ext (by simp only; omega) (by simp only; omega)⟩
    · rintro ⟨t, ht, rfl⟩
      obtain ⟨y, hy, z, hz, rfl⟩ := mem_sums2.1 ht
      exact ⟨negP y, List.mem_map.2 ⟨y, hy, rfl⟩, negP z, List.mem_map.2 ⟨z, hz, rfl⟩, by unfold negP addP; exact Prod.ext (by simp only; omega) (by simp only; omega)⟩
  exact h.more (fun q hq => (hm q).1 hq) (fun v hv => (hm v).2 (h.hull.sub v hv))
theorem sums_mov {a b x : List Pt} {v : Pt} (h : HullY ((sums2 a b).map (fun p => addP p v)) x) : HullY (sums2 (a.map (fun p => addP p v)) b) x := by
  have hm : ∀ q, q ∈ sums2 (a.map (fun p => addP p v)) b ↔ q ∈ (sums2 a b).map (fun p => addP p v) := fun q => by
    rw [mem_sums2, List.mem_map]
    constructor
    · rintro ⟨p, hp, z, hz, rfl⟩
      obtain ⟨y, hy, rfl⟩ := List.mem_map.1 hp
      exact ⟨addP y z, mem_sums2.2 ⟨y, hy, z, hz, rfl⟩, by unfold addP; exact Prod.ext (by simp only; omega) (by simp only; omega)⟩
    · rintro ⟨t, ht, rfl⟩
      obtain ⟨y, hy, z, hz, rfl⟩ := mem_sums2.1 ht
      exact ⟨addP y v, List.mem_map.2 ⟨y, hy, rfl⟩, z, hz, by unfold addP; exact Prod.ext (by simp only; omega) (by simp only; omega)⟩
  exact h.more (fun q hq => (hm q).1 hq) (fun v hv => (hm v).2 (h.hull.sub v hv))
/-- A valid ring that is mapped and begun anew. -/
theorem map_begun {r : List Pt} {f : Pt → Pt} (hr : Conv15 r) (hf : ∀ a b c, det (f a) (f b) (f c) = det a b c) (hn : ∀ p ∈ r, near 8000 (f p)) {k : Nat} (hk : k < r.length) (hl : ∀ j, j < r.length → ¬ lexy (at0 (r.map f) j) (at0 (r.map f) k)) :
    HullY (r.map f) (rotL k (r.map f)) ∧ CanonR (rotL k (r.map f)) ∧ (rotL k (r.map f)).length = r.length := by
  have h3 := hr.1
  have hc := hr.2.2.2.mapD hf
  have hI := hc.self (by rw [List.length_map]; exact h3)
  have hH := begin_hull (M := 8000) (fun q hq => by obtain ⟨p, hp, rfl⟩ := List.mem_map.1 hq; exact (hn p hp).1) hI (by rw [List.length_map]; exact hk) (by rw [List.length_map]; exact hl)
  have hlen : (rotL k (r.map f)).length = r.length := by rw [rotL_length (by rw [List.length_map]; omega), List.length_map]
  refine ⟨hH, hullY_canon hH (List.all_eq_true.2 fun p hp => ?_) (by rw [hlen]; exact hr.2.1), hlen⟩
  obtain ⟨q, hq, rfl⟩ := List.mem_map.1 ((mem_rotL p).1 hp)
  exact inV_near.2 (hn q hq)
/-- What Negate gives. -/
def NegV (r : List Pt) (out : List Pt × Int) : Prop := if validB r = true then (HullY (r.map negP) out.1 ∧ out.1.length = r.length ∧ out.2 = 0) else out = ([], 11)
/-- What Move gives. -/
def MoveV (r : List Pt) (v : Pt) (out : List Pt × Int) : Prop :=
  if validB r = true then (if withinB v.1 v.2 16000 = true ∧ (r.map (fun p => addP p v)).all inV = true then (HullY (r.map (fun p => addP p v)) out.1 ∧ out.1.length = r.length ∧ out.2 = 0) else out = ([], 2)) else out = ([], 11)
theorem NegV.unique {r : List Pt} {a b : List Pt × Int} (h : NegV r a) (k : NegV r b) : a = b := by
  unfold NegV at h k
  split at h
  · rw [if_pos (by assumption)] at k
    exact Prod.ext (h.1.unique k.1) (h.2.2.trans k.2.2.symm)
  · rw [if_neg (by assumption)] at k; rw [h, k]
theorem MoveV.unique {r : List Pt} {v : Pt} {a b : List Pt × Int} (h : MoveV r v a) (k : MoveV r v b) : a = b := by
  unfold MoveV at h k
  split at h
  · rw [if_pos (by assumption)] at k
    split at h
    · rw [if_pos (by assumption)] at k
      exact Prod.ext (h.1.unique k.1) (h.2.2.trans k.2.2.symm)
    · rw [if_neg (by assumption)] at k; rw [h, k]
  · rw [if_neg (by assumption)] at k; rw [h, k]
theorem near_neg {m : Int} {p : Pt} (h : near m p) : near m (negP p) := by unfold near negP at *; simp only; omega
theorem NegV.ok {r : List Pt} {m : Int} (hm : m ≤ 8000) (hr : Conv15 r) (nr : ∀ p ∈ r, near m p) {out : List Pt × Int} (h : NegV r out) : out.2 = 0 ∧ HullY (r.map negP) out.1 ∧ Conv15 out.1 ∧ (∀ p ∈ out.1, near m p) ∧ out.1.length = r.length := by
  unfold NegV at h
  rw [if_pos (validB_iff.2 hr)] at h
  have hn : ∀ p ∈ out.1, near m p := fun p hp => by
    obtain ⟨q, hq, rfl⟩ := List.mem_map.1 (h.1.hull.sub p hp)
    exact near_neg (nr q hq)
  exact ⟨h.2.2, h.1, (hullY_canon h.1 (List.all_eq_true.2 fun p hp => inV_near.2 (near_mono hm (hn p hp))) (by rw [h.2.1]; exact hr.2.1)).1, hn, h.2.1⟩
theorem MoveV.ok {r : List Pt} {v : Pt} {m n : Int} (hmn : m + n ≤ 8000) (hm0 : 0 ≤ m) (hr : Conv15 r) (nr : ∀ p ∈ r, near m p) (nv : near n v) {out : List Pt × Int} (h : MoveV r v out) : out.2 = 0 ∧ HullY (r.map (fun p => addP p v)) out.1 ∧ Conv15 out.1 ∧ (∀ p ∈ out.1, near (m + n) p) ∧ out.1.length = r.length := by
  have hn0 : ∀ p ∈ r, near (m + n) (addP p v) := fun p hp => by have := nr p hp; unfold near addP at *; simp only; omega
  unfold MoveV at h
  rw [if_pos (validB_iff.2 hr), if_pos ⟨(near_within (by omega)).2 (near_mono (by omega) nv), List.all_eq_true.2 fun q hq => by
    obtain ⟨p, hp, rfl⟩ := List.mem_map.1 hq
    exact inV_near.2 (near_mono hmn (hn0 p hp))⟩] at h
  have hn : ∀ p ∈ out.1, near (m + n) p := fun p hp => by
    obtain ⟨q, hq, rfl⟩ := List.mem_map.1 (h.1.hull.sub p hp)
    exact hn0 q hq
  exact ⟨h.2.2, h.1, (hullY_canon h.1 (List.all_eq_true.2 fun p hp => inV_near.2 (near_mono hmn (hn p hp))) (by rw [h.2.1]; exact hr.2.1)).1, hn, h.2.1⟩
end Go.Proofs.YtpbgimdbhgahkaaGreat
/- Layer 15: Negate and Move. -/
namespace Go.Proofs.YtpbgimdbhgahkaaGreat
open Go.RowKit Go.Sort
set_option linter.unusedVariables false
set_option linter.unusedSimpArgs false
attribute [local go_sem ↓] Go.wp_at_zero Go.wp_at_succ

theorem wneg_near {p : Pt} (h : near 16000 p) : (wneg p.1, wneg p.2) = negP p := by
  unfold near at h
  have e : ∀ a : Int, -16000 ≤ a ∧ a ≤ 16000 → wneg a = -a := fun a ha => by unfold wneg wrap64; omega
  rw [e _ h.1, e _ h.2]; rfl
def NewRow (w w' : World) (A : Option Addr) (c : Nat) (l : List Pt) : Prop := IsVecs w' A c l ∧ l.length ≤ c ∧ (∀ b, blockOf A = some b → w.heap.size ≤ b) ∧ SinceOf w w'
set_option maxRecDepth 100000 in
set_option maxHeartbeats 8000000 in
theorem negate_any (A : Option Addr) (c : Nat) (r : List (Int × Int)) (w : World) (h : IsVecs w A c r) (hn : r.length < 4611686018427387904) :
    Calls Tryz.prog 18 #[.slice A r.length c] w fun e w' => ∃ A' c' out, e = .returned (.tuple #[.slice A' out.1.length c', .int .i64 out.2]) ∧ NegV r out ∧ NewRow w w' A' c' out.1 := by
  have V := fun W (hW : SinceOf w W) => valid_any A c r W (h.of hW) hn
  have H := Lib.hid h
  clear h
  unfold NewRow
  cases hv : validB r
  · rw [hv] at V
    have HV := Lib.hid hv
    clear hv
    go_enter Tryz.func18, Tryz.ntmps18
    go_wp2_with fail
    refine (V _ (by (repeat (first | (with_reducible exact SinceOf.refl _) | (with_reducible assumption) | (with_reducible refine SinceOf.alloc ?_ _) | (with_reducible refine SinceOf.drew ?_) | (with_reducible refine SinceOf.drewN ?_ _) | (with_reducible refine SinceOf.later ?_ _) | (with_reducible refine SinceOf.further ?_ _) | (with_reducible refine SinceOf.setCell ?_ (by first | exact Nat.le_refl _ | (simp; done) | omega | (simp; omega)) _))))).calls.mono ?_
    rintro e _ ⟨rfl, x1, rfl⟩
    go_wp2_with fail
    go_returns
    exact ⟨none, 0, ([], 11), rfl, by unfold NegV; rw [HV.out]; rfl, IsRow.nil _ _ _, Nat.le_refl _, (fun b hb => by cases hb), by (repeat (first | (with_reducible exact SinceOf.refl _) | (with_reducible assumption) | (with_reducible refine SinceOf.alloc ?_ _) | (with_reducible refine SinceOf.drew ?_) | (with_reducible refine SinceOf.drewN ?_ _) | (with_reducible refine SinceOf.later ?_ _) | (with_reducible refine SinceOf.further ?_ _) | (with_reducible refine SinceOf.setCell ?_ (by first | exact Nat.le_refl _ | (simp; done) | omega | (simp; omega)) _)))⟩
  rw [hv] at V
  have hC := validB_iff.1 hv
  have r3 := hC.1
  have r160 := hC.2.1
  have HC := Lib.hid (And.intro hv hC)
  obtain ⟨i0, hi, hz0, hz1, hz2⟩ := info_parts infoVec
  have HI := Lib.hid (And.intro hi (And.intro hz0 (And.intro hz1 hz2)))
  clear hi hz0 hz1 hz2 hC hv hn
  go_enter Tryz.func18, Tryz.ntmps18
  go_wp2_with fail
  refine (V _ (by (repeat (first | (with_reducible exact SinceOf.refl _) | (with_reducible assumption) | (with_reducible refine SinceOf.alloc ?_ _) | (with_reducible refine SinceOf.drew ?_) | (with_reducible refine SinceOf.drewN ?_ _) | (with_reducible refine SinceOf.later ?_ _) | (with_reducible refine SinceOf.further ?_ _) | (with_reducible refine SinceOf.setCell ?_ (by first | exact Nat.le_refl _ | (simp; done) | omega | (simp; omega)) _))))).calls.mono ?_
  rintro e _ ⟨rfl, x1, rfl⟩
  clear V
  go_wp2_with fail
  go_loopg [4, 12] r.length (fun gas s4 s12 wr => ∃ (i : Nat) (A2 : Option Addr) (c2 : Nat), i ≤ r.length ∧ r.length - i ≤ gas ∧ s4 = .slice A2 i c2 ∧ s12 = .int .i64 i ∧ OwnVecs w.heap.size wr A2 c2 ((r.map negP).take i) ∧ SinceOf w wr)
  case atStart => exact ⟨0, none, 0, by omega, by omega, rfl, rfl, Owns.nil _ _ _ _ _, by (repeat (first | (with_reducible exact SinceOf.refl _) | (with_reducible assumption) | (with_reducible refine SinceOf.alloc ?_ _) | (with_reducible refine SinceOf.drew ?_) | (with_reducible refine SinceOf.drewN ?_ _) | (with_reducible refine SinceOf.later ?_ _) | (with_reducible refine SinceOf.further ?_ _) | (with_reducible refine SinceOf.setCell ?_ (by first | exact Nat.le_refl _ | (simp; done) | omega | (simp; omega)) _)))⟩
  case round =>
    obtain ⟨i, A2, c2, hi, hgas, rfl, rfl, ho, ⟨z, rfl⟩⟩ := hrel
    have hzs := z.size
    by_cases hlt : i < r.length
    · have hr0 := H.out.of (w' := z.wd) (by (repeat (first | (with_reducible exact SinceOf.refl _) | (with_reducible assumption) | (with_reducible refine SinceOf.alloc ?_ _) | (with_reducible refine SinceOf.drew ?_) | (with_reducible refine SinceOf.drewN ?_ _) | (with_reducible refine SinceOf.later ?_ _) | (with_reducible refine SinceOf.further ?_ _) | (with_reducible refine SinceOf.setCell ?_ (by first | exact Nat.le_refl _ | (simp; done) | omega | (simp; omega)) _))))
      obtain ⟨g, off, rfl, hr⟩ := hr0.at_ (by omega)
      have hO := hr.there
      have k0 := hr.v0 i hlt
      have k1 := hr.v1 i hlt
      have NG := neg_any r[i].1 r[i].2
      have en := wneg_near (near_mono (by omega) (HC.out.2.2.2.1 _ (List.getElem_mem hlt)) : near 16000 r[i])
      have hnx : (r.map negP).take (i + 1) = (r.map negP).take i ++ [negP r[i]] := by
        rw [List.take_succ_eq_append_getElem (by rw [List.length_map]; exact hlt), List.getElem_map]
      rw [← en] at hnx
      have hl0 : ((r.map negP).take i).length = i := by rw [List.length_take, List.length_map]; omega
      obtain ⟨L, hL⟩ : ∃ L, L = (r.map negP).take i := ⟨_, rfl⟩
      rw [← hL] at ho hnx hl0
      have HP := Lib.hid (And.intro ho (And.intro hnx hl0))
      clear ho hnx hl0 hL hr hr0 en
      generalize wneg r[i].1 = nx at *
      generalize wneg r[i].2 = ny at *
      generalize r[i].1 = px at *
      generalize r[i].2 = py at *
      go_wp2_with fail
      refine (NG _).calls.mono ?_
      rintro e _ ⟨rfl, x2, rfl⟩
      have hx2 := x2.size
      simp only [World.size_alloc, World.size_setCell] at hx2
      go_wp2_with (at_builtin; refine wpList_append_row rfl (.tmp 16) (.tmp 19) 41 rfl encV_len (by omega) encV_one i0 _ 16 Tryz.underlying41 HI.out.1 HI.out.2.1 HI.out.2.2.1 HI.out.2.2.2 rfl (l := L) (A := A2) (c := c2) (base := w.heap.size) (by rw [HP.out.2.2]; rfl) (HP.out.1.of (by (repeat (first | (with_reducible exact SinceOf.refl _) | (with_reducible assumption) | (with_reducible refine SinceOf.alloc ?_ _) | (with_reducible refine SinceOf.drew ?_) | (with_reducible refine SinceOf.drewN ?_ _) | (with_reducible refine SinceOf.later ?_ _) | (with_reducible refine SinceOf.further ?_ _) | (with_reducible refine SinceOf.setCell ?_ (by first | exact Nat.le_refl _ | (simp; done) | omega | (simp; omega)) _))))) (m := [(nx, ny)]) rfl (isRow_atV _ _ nx ny (by first | rfl | simp)) (by rw [HP.out.2.2]; unfold maxLen; simp; omega) (by rw [HP.out.2.2]; simp; omega) (by simp; omega) ?_; intro A5 c5 w5 ho5 hgr5 hb5)
      go_roundg (r.length - (i + 1))
      case measure => omega
      case rel => exact ⟨i + 1, A5, c5, hlt, Nat.le_refl _, (by have q := HP.out.2.2; first | rfl | simp [q]), by go_num, by rw [HP.out.2.1]; exact ho5, SinceOf.grown (by (repeat (first | (with_reducible exact SinceOf.refl _) | (with_reducible assumption) | (with_reducible refine SinceOf.alloc ?_ _) | (with_reducible refine SinceOf.drew ?_) | (with_reducible refine SinceOf.drewN ?_ _) | (with_reducible refine SinceOf.later ?_ _) | (with_reducible refine SinceOf.further ?_ _) | (with_reducible refine SinceOf.setCell ?_ (by first | exact Nat.le_refl _ | (simp; done) | omega | (simp; omega)) _)))) hgr5 (fun q hq => (HP.out.1.below q hq).1)⟩
    · obtain rfl : i = r.length := by omega
      rw [List.take_of_length_le (by rw [List.length_map]; exact Nat.le_refl _)] at ho
      have hlm : (r.map negP).length = r.length := List.length_map _
      have B := fun W (hW : SinceOf z.wd W) => begun_any A2 c2 (r.map negP) W ((ho.isRow encV_len).of hW) (by omega) (by omega) ho.le_cap
      rw [hlm] at B
      clear ho
      go_wp2_with fail
      refine (B _ (by (repeat (first | (with_reducible exact SinceOf.refl _) | (with_reducible assumption) | (with_reducible refine SinceOf.alloc ?_ _) | (with_reducible refine SinceOf.drew ?_) | (with_reducible refine SinceOf.drewN ?_ _) | (with_reducible refine SinceOf.later ?_ _) | (with_reducible refine SinceOf.further ?_ _) | (with_reducible refine SinceOf.setCell ?_ (by first | exact Nat.le_refl _ | (simp; done) | omega | (simp; omega)) _))))).mono ?_
      rintro e _ ⟨A3, c3, k, rfl, hk, hm, ho3, ⟨x3, rfl⟩⟩
      obtain ⟨m1, m2, m3⟩ := map_begun HC.out.2 det_neg (fun p hp => near_neg (HC.out.2.2.2.1 p hp)) hk hm
      have hcap := ho3.le_cap
      have HR := Lib.hid (And.intro (show NegV r (rotL k (r.map negP), 0) by unfold NegV; rw [if_pos HC.out.1]; exact ⟨m1, m3, rfl⟩) (And.intro (ho3.isRow encV_len) (And.intro m3 (fun b hb => Nat.le_trans hzs (ho3.below b hb).1))))
      rw [m3] at hcap
      clear B ho3 m1 m2 m3 hm
      go_wp2_with fail
      go_returns
      exact ⟨A3, c3, (rotL k (r.map negP), 0), by rw [HR.out.2.2.1]; rfl, HR.out.1, HR.out.2.1, by rw [HR.out.2.2.1]; exact hcap, HR.out.2.2.2, by (repeat (first | (with_reducible exact SinceOf.refl _) | (with_reducible assumption) | (with_reducible refine SinceOf.alloc ?_ _) | (with_reducible refine SinceOf.drew ?_) | (with_reducible refine SinceOf.drewN ?_ _) | (with_reducible refine SinceOf.later ?_ _) | (with_reducible refine SinceOf.further ?_ _) | (with_reducible refine SinceOf.setCell ?_ (by first | exact Nat.le_refl _ | (simp; done) | omega | (simp; omega)) _)))⟩
set_option maxRecDepth 100000 in
set_option maxHeartbeats 8000000 in
theorem move_any (A : Option Addr) (c : Nat) (r : List (Int × Int)) (vx vy : Int) (w : World) (h : IsVecs w A c r) (hn : r.length < 4611686018427387904) :
    Calls Tryz.prog 22 #[.slice A r.length c, vv vx vy] w fun e w' => ∃ A' c' out, e = .returned (.tuple #[.slice A' out.1.length c', .int .i64 out.2]) ∧ MoveV r (vx, vy) out ∧ NewRow w w' A' c' out.1 := by
  have V := fun W (hW : SinceOf w W) => valid_any A c r W (h.of hW) hn
  have WI := within_any vx vy 16000
  have H := Lib.hid h
  clear h
  unfold NewRow
  cases hv : validB r
  · rw [hv] at V
    have HV := Lib.hid hv
    clear hv
    go_enter Tryz.func22, Tryz.ntmps22
    go_wp2_with fail
    refine (V _ (by (repeat (first | (with_reducible exact SinceOf.refl _) | (with_reducible assumption) | (with_reducible refine SinceOf.alloc ?_ _) | (with_reducible refine SinceOf.drew ?_) | (with_reducible refine SinceOf.drewN ?_ _) | (with_reducible refine SinceOf.later ?_ _) | (with_reducible refine SinceOf.further ?_ _) | (with_reducible refine SinceOf.setCell ?_ (by first | exact Nat.le_refl _ | (simp; done) | omega | (simp; omega)) _))))).calls.mono ?_
    rintro e _ ⟨rfl, x1, rfl⟩
    go_wp2_with fail
    go_returns
    exact ⟨none, 0, ([], 11), rfl, by unfold MoveV; rw [HV.out]; rfl, IsRow.nil _ _ _, Nat.le_refl _, (fun b hb => by cases hb), by (repeat (first | (with_reducible exact SinceOf.refl _) | (with_reducible assumption) | (with_reducible refine SinceOf.alloc ?_ _) | (with_reducible refine SinceOf.drew ?_) | (with_reducible refine SinceOf.drewN ?_ _) | (with_reducible refine SinceOf.later ?_ _) | (with_reducible refine SinceOf.further ?_ _) | (with_reducible refine SinceOf.setCell ?_ (by first | exact Nat.le_refl _ | (simp; done) | omega | (simp; omega)) _)))⟩
  rw [hv] at V
  have hC := validB_iff.1 hv
  have r3 := hC.1
  have r160 := hC.2.1
  cases hw : withinB vx vy 16000
  · rw [hw] at WI
    have HV := Lib.hid (And.intro hv hw)
    clear hv hw hC
    go_enter Tryz.func22, Tryz.ntmps22
    go_wp2_with fail
    refine (V _ (by (repeat (first | (with_reducible exact SinceOf.refl _) | (with_reducible assumption) | (with_reducible refine SinceOf.alloc ?_ _) | (with_reducible refine SinceOf.drew ?_) | (with_reducible refine SinceOf.drewN ?_ _) | (with_reducible refine SinceOf.later ?_ _) | (with_reducible refine SinceOf.further ?_ _) | (with_reducible refine SinceOf.setCell ?_ (by first | exact Nat.le_refl _ | (simp; done) | omega | (simp; omega)) _))))).calls.mono ?_
    rintro e _ ⟨rfl, x1, rfl⟩
    go_wp2_with fail
    refine (WI _).calls.mono ?_
    rintro e _ ⟨rfl, x2, rfl⟩
    go_wp2_with fail
    go_returns
    exact ⟨none, 0, ([], 2), rfl, by unfold MoveV; rw [if_pos HV.out.1, if_neg (by rw [HV.out.2]; simp)], IsRow.nil _ _ _, Nat.le_refl _, (fun b hb => by cases hb), by (repeat (first | (with_reducible exact SinceOf.refl _) | (with_reducible assumption) | (with_reducible refine SinceOf.alloc ?_ _) | (with_reducible refine SinceOf.drew ?_) | (with_reducible refine SinceOf.drewN ?_ _) | (with_reducible refine SinceOf.later ?_ _) | (with_reducible refine SinceOf.further ?_ _) | (with_reducible refine SinceOf.setCell ?_ (by first | exact Nat.le_refl _ | (simp; done) | omega | (simp; omega)) _)))⟩
  rw [hw] at WI
  have nv : near 16000 (vx, vy) := (near_within (by omega)).1 hw
  have HC := Lib.hid (And.intro hv (And.intro hw (And.intro nv hC)))
  obtain ⟨i0, hi, hz0, hz1, hz2⟩ := info_parts infoVec
  have HI := Lib.hid (And.intro hi (And.intro hz0 (And.intro hz1 hz2)))
  obtain ⟨M, hM⟩ : ∃ M, M = r.map (fun p => addP p (vx, vy)) := ⟨_, rfl⟩
  have hlM : M.length = r.length := by rw [hM, List.length_map]
  have HM := Lib.hid (And.intro hM hlM)
  clear hi hz0 hz1 hz2 hC hv hn hw nv hM hlM
  go_enter Tryz.func22, Tryz.ntmps22
  go_wp2_with fail
  refine (V _ (by (repeat (first | (with_reducible exact SinceOf.refl _) | (with_reducible assumption) | (with_reducible refine SinceOf.alloc ?_ _) | (with_reducible refine SinceOf.drew ?_) | (with_reducible refine SinceOf.drewN ?_ _) | (with_reducible refine SinceOf.later ?_ _) | (with_reducible refine SinceOf.further ?_ _) | (with_reducible refine SinceOf.setCell ?_ (by first | exact Nat.le_refl _ | (simp; done) | omega | (simp; omega)) _))))).calls.mono ?_
  rintro e _ ⟨rfl, x1, rfl⟩
  clear V
  go_wp2_with fail
  refine (WI _).calls.mono ?_
  rintro e _ ⟨rfl, x2, rfl⟩
  clear WI
  have VB : VarV x2.wd w.heap.size (vx, vy) := (VarV.new w vx vy 24).of (by (repeat (first | (with_reducible exact SinceOf.refl _) | (with_reducible assumption) | (with_reducible refine SinceOf.alloc ?_ _) | (with_reducible refine SinceOf.drew ?_) | (with_reducible refine SinceOf.drewN ?_ _) | (with_reducible refine SinceOf.later ?_ _) | (with_reducible refine SinceOf.further ?_ _) | (with_reducible refine SinceOf.setCell ?_ (by first | exact Nat.le_refl _ | (simp; done) | omega | (simp; omega)) _))))
  have HVB := Lib.hid VB
  have hltb := VB.lt
  clear VB
  obtain ⟨v0, hv0⟩ : SinceOf w x2.wd := by (repeat (first | (with_reducible exact SinceOf.refl _) | (with_reducible assumption) | (with_reducible refine SinceOf.alloc ?_ _) | (with_reducible refine SinceOf.drew ?_) | (with_reducible refine SinceOf.drewN ?_ _) | (with_reducible refine SinceOf.later ?_ _) | (with_reducible refine SinceOf.further ?_ _) | (with_reducible refine SinceOf.setCell ?_ (by first | exact Nat.le_refl _ | (simp; done) | omega | (simp; omega)) _)))
  rw [hv0] at HVB hltb ⊢
  clear hv0 x2 x1
  have hv0s := v0.size
  go_wp2_with fail
  go_loopg [6, 17] r.length (fun gas s6 s17 wr => ∃ (i : Nat) (A2 : Option Addr) (c2 : Nat), i ≤ r.length ∧ r.length - i ≤ gas ∧ s6 = .slice A2 i c2 ∧ s17 = .int .i64 i ∧ OwnVecs v0.wd.heap.size wr A2 c2 (M.take i) ∧ SinceOf v0.wd wr)
  case atStart => exact ⟨0, none, 0, by omega, by omega, rfl, rfl, Owns.nil _ _ _ _ _, by (repeat (first | (with_reducible exact SinceOf.refl _) | (with_reducible assumption) | (with_reducible refine SinceOf.alloc ?_ _) | (with_reducible refine SinceOf.drew ?_) | (with_reducible refine SinceOf.drewN ?_ _) | (with_reducible refine SinceOf.later ?_ _) | (with_reducible refine SinceOf.further ?_ _) | (with_reducible refine SinceOf.setCell ?_ (by first | exact Nat.le_refl _ | (simp; done) | omega | (simp; omega)) _)))⟩
  case round =>
    obtain ⟨i, A2, c2, hi, hgas, rfl, rfl, ho, ⟨z, rfl⟩⟩ := hrel
    have hzs := z.size
    by_cases hlt : i < r.length
    · have hr0 := H.out.of (w' := z.wd) (SinceOf.trans ⟨v0, rfl⟩ ⟨z, rfl⟩)
      obtain ⟨g, off, rfl, hr⟩ := hr0.at_ (by omega)
      have hO := hr.there
      have k0 := hr.v0 i hlt
      have k1 := hr.v1 i hlt
      have VZ := HVB.out.of (W' := z.wd) (by (repeat (first | (with_reducible exact SinceOf.refl _) | (with_reducible assumption) | (with_reducible refine SinceOf.alloc ?_ _) | (with_reducible refine SinceOf.drew ?_) | (with_reducible refine SinceOf.drewN ?_ _) | (with_reducible refine SinceOf.later ?_ _) | (with_reducible refine SinceOf.further ?_ _) | (with_reducible refine SinceOf.setCell ?_ (by first | exact Nat.le_refl _ | (simp; done) | omega | (simp; omega)) _))))
      have q0 := VZ.c0
      have q1 := VZ.c1
      have hOv : Nonempty (Old z.wd w.heap.size) := ⟨⟨VZ.lt⟩⟩
      simp only at q0 q1
      have AD := add_any r[i].1 r[i].2 vx vy
      have nr := HC.out.2.2.2.2.2.1 _ (List.getElem_mem hlt)
      have en : (wadd r[i].1 vx, wadd r[i].2 vy) = addP r[i] (vx, vy) := by
        have nv := HC.out.2.2.1
        unfold near at nr nv
        simp only at nv
        rw [wadd_near (n := 1) (by omega) (by omega) (by omega), wadd_near (n := 1) (by omega) (by omega) (by omega)]
        rfl
      have hnx : M.take (i + 1) = M.take i ++ [addP r[i] (vx, vy)] := by
        rw [List.take_succ_eq_append_getElem (by rw [HM.out.2]; exact hlt)]
        congr 2
        have := HM.out.1
        subst this
        rw [List.getElem_map]
      rw [← en] at hnx
      have hl0 : (M.take i).length = i := by rw [List.length_take, HM.out.2]; omega
      obtain ⟨L, hL⟩ : ∃ L, L = M.take i := ⟨_, rfl⟩
      rw [← hL] at ho hnx hl0
      have HP := Lib.hid (And.intro ho (And.intro hnx hl0))
      clear ho hnx hl0 hL hr hr0 en nr VZ
      generalize wadd r[i].1 vx = nx at *
      generalize wadd r[i].2 vy = ny at *
      generalize r[i].1 = px at *
      generalize r[i].2 = py at *
      go_wp2_with fail
      refine (AD _).calls.mono ?_
      rintro e _ ⟨rfl, x2, rfl⟩
      have hx2 := x2.size
      simp only [World.size_alloc, World.size_setCell] at hx2
      go_wp2_with (at_builtin; refine wpList_append_row rfl (.tmp 21) (.tmp 25) 41 rfl encV_len (by omega) encV_one i0 _ 16 Tryz.underlying41 HI.out.1 HI.out.2.1 HI.out.2.2.1 HI.out.2.2.2 rfl (l := L) (A := A2) (c := c2) (base := v0.wd.heap.size) (by rw [HP.out.2.2]; rfl) (HP.out.1.of (by (repeat (first | (with_reducible exact SinceOf.refl _) | (with_reducible assumption) | (with_reducible refine SinceOf.alloc ?_ _) | (with_reducible refine SinceOf.drew ?_) | (with_reducible refine SinceOf.drewN ?_ _) | (with_reducible refine SinceOf.later ?_ _) | (with_reducible refine SinceOf.further ?_ _) | (with_reducible refine SinceOf.setCell ?_ (by first | exact Nat.le_refl _ | (simp; done) | omega | (simp; omega)) _))))) (m := [(nx, ny)]) rfl (isRow_atV _ _ nx ny (by first | rfl | simp)) (by rw [HP.out.2.2]; unfold maxLen; simp; omega) (by rw [HP.out.2.2]; simp; omega) (by simp; omega) ?_; intro A5 c5 w5 ho5 hgr5 hb5)
      go_roundg (r.length - (i + 1))
      case measure => omega
      case rel => exact ⟨i + 1, A5, c5, hlt, Nat.le_refl _, (by have q := HP.out.2.2; first | rfl | simp [q]), by go_num, by rw [HP.out.2.1]; exact ho5, SinceOf.grown (by (repeat (first | (with_reducible exact SinceOf.refl _) | (with_reducible assumption) | (with_reducible refine SinceOf.alloc ?_ _) | (with_reducible refine SinceOf.drew ?_) | (with_reducible refine SinceOf.drewN ?_ _) | (with_reducible refine SinceOf.later ?_ _) | (with_reducible refine SinceOf.further ?_ _) | (with_reducible refine SinceOf.setCell ?_ (by first | exact Nat.le_refl _ | (simp; done) | omega | (simp; omega)) _)))) hgr5 (fun q hq => (HP.out.1.below q hq).1)⟩
    · obtain rfl : i = r.length := by omega
      rw [List.take_of_length_le (by rw [HM.out.2]; exact Nat.le_refl _)] at ho
      have NR := fun W (hW : SinceOf z.wd W) => near_any A2 c2 M W ((ho.isRow encV_len).of hW) (by rw [HM.out.2]; omega)
      have B := fun W (hW : SinceOf z.wd W) => begun_any A2 c2 M W ((ho.isRow encV_len).of hW) (by rw [HM.out.2]; omega) (by rw [HM.out.2]; omega) ho.le_cap
      rw [HM.out.2] at B NR
      clear ho
      cases ha : M.all inV
      · rw [ha] at NR
        have HA := Lib.hid ha
        clear ha B
        go_wp2_with fail
        refine (NR _ (by (repeat (first | (with_reducible exact SinceOf.refl _) | (with_reducible assumption) | (with_reducible refine SinceOf.alloc ?_ _) | (with_reducible refine SinceOf.drew ?_) | (with_reducible refine SinceOf.drewN ?_ _) | (with_reducible refine SinceOf.later ?_ _) | (with_reducible refine SinceOf.further ?_ _) | (with_reducible refine SinceOf.setCell ?_ (by first | exact Nat.le_refl _ | (simp; done) | omega | (simp; omega)) _))))).calls.mono ?_
        rintro e _ ⟨rfl, x3, rfl⟩
        go_wp2_with fail
        go_returns
        exact ⟨none, 0, ([], 2), rfl, by unfold MoveV; rw [if_pos HC.out.1, if_neg (by rw [← HM.out.1, HA.out]; simp)], IsRow.nil _ _ _, Nat.le_refl _, (fun b hb => by cases hb), SinceOf.trans ⟨v0, rfl⟩ (by (repeat (first | (with_reducible exact SinceOf.refl _) | (with_reducible assumption) | (with_reducible refine SinceOf.alloc ?_ _) | (with_reducible refine SinceOf.drew ?_) | (with_reducible refine SinceOf.drewN ?_ _) | (with_reducible refine SinceOf.later ?_ _) | (with_reducible refine SinceOf.further ?_ _) | (with_reducible refine SinceOf.setCell ?_ (by first | exact Nat.le_refl _ | (simp; done) | omega | (simp; omega)) _))))⟩
      · rw [ha] at NR
        have HA := Lib.hid ha
        clear ha
        go_wp2_with fail
        refine (NR _ (by (repeat (first | (with_reducible exact SinceOf.refl _) | (with_reducible assumption) | (with_reducible refine SinceOf.alloc ?_ _) | (with_reducible refine SinceOf.drew ?_) | (with_reducible refine SinceOf.drewN ?_ _) | (with_reducible refine SinceOf.later ?_ _) | (with_reducible refine SinceOf.further ?_ _) | (with_reducible refine SinceOf.setCell ?_ (by first | exact Nat.le_refl _ | (simp; done) | omega | (simp; omega)) _))))).calls.mono ?_
        rintro e _ ⟨rfl, x3, rfl⟩
        clear NR
        go_wp2_with fail
        refine (B _ (by (repeat (first | (with_reducible exact SinceOf.refl _) | (with_reducible assumption) | (with_reducible refine SinceOf.alloc ?_ _) | (with_reducible refine SinceOf.drew ?_) | (with_reducible refine SinceOf.drewN ?_ _) | (with_reducible refine SinceOf.later ?_ _) | (with_reducible refine SinceOf.further ?_ _) | (with_reducible refine SinceOf.setCell ?_ (by first | exact Nat.le_refl _ | (simp; done) | omega | (simp; omega)) _))))).mono ?_
        rintro e _ ⟨A3, c3, k, rfl, hk, hm, ho3, ⟨x4, rfl⟩⟩
        have hin := HA.out
        rw [HM.out.1] at hin
        rw [HM.out.1] at hm ho3
        obtain ⟨m1, m2, m3⟩ := map_begun HC.out.2.2.2 (det_mov (vx, vy)) (fun p hp => inV_near.1 (List.all_eq_true.1 hin _ (List.mem_map.2 ⟨p, hp, rfl⟩))) hk hm
        have hcap := ho3.le_cap
        have hx3 := x3.size
        have HR := Lib.hid (And.intro (show MoveV r (vx, vy) (rotL k (r.map (fun p => addP p (vx, vy))), 0) by unfold MoveV; rw [if_pos HC.out.1, if_pos ⟨HC.out.2.1, hin⟩]; exact ⟨m1, m3, rfl⟩) (And.intro (ho3.isRow encV_len) (And.intro m3 (fun b hb => (by have := (ho3.below b hb).1; omega : w.heap.size ≤ b)))))
        rw [m3] at hcap
        clear B ho3 m1 m2 m3 hm hin
        go_wp2_with fail
        go_returns
        exact ⟨A3, c3, (rotL k (r.map (fun p => addP p (vx, vy))), 0), by rw [HR.out.2.2.1]; rfl, HR.out.1, HR.out.2.1, by rw [HR.out.2.2.1]; exact hcap, HR.out.2.2.2, SinceOf.trans ⟨v0, rfl⟩ (by (repeat (first | (with_reducible exact SinceOf.refl _) | (with_reducible assumption) | (with_reducible refine SinceOf.alloc ?_ _) | (with_reducible refine SinceOf.drew ?_) | (with_reducible refine SinceOf.drewN ?_ _) | (with_reducible refine SinceOf.later ?_ _) | (with_reducible refine SinceOf.further ?_ _) | (with_reducible refine SinceOf.setCell ?_ (by first | exact Nat.le_refl _ | (simp; done) | omega | (simp; omega)) _))))⟩
end Go.Proofs.YtpbgimdbhgahkaaGreat
