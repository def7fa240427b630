/- Layer 16: where a vector lies with regard to forbidden rings, by directions alone; exchanging, moving, touching. -/
import Derived.Test.YtpbgimdbhgahkaaGreatNof5
import Derived.Test.YtpbgimdbhgahkaaGreatMinkL2
namespace Go.Proofs.YtpbgimdbhgahkaaGreat
open Go.RowKit Go.Sort
set_option linter.unusedVariables false
set_option linter.unusedSimpArgs false

theorem where_less {P u : List Pt} (H : HullY P u) (hu : Conv15 u) {o : Pt} (ho : near 8000 o) : whereM u o = 2 ↔ ∀ K L : Int, (K ≠ 0 ∨ L ≠ 0) → ∃ p ∈ P, lin K L p < lin K L o := by
  rw [where_two (validB_iff.2 hu) ho]
  constructor
  · intro h K L hKL
    obtain ⟨v, hv, hl⟩ := inside_less H.hull hKL h
    exact ⟨v, H.hull.sub v hv, hl⟩
  · intro h i hi
    obtain ⟨K, L, c, hKL, e⟩ := edge_form hu.2.2.2 hu.1 hi
    obtain ⟨p, hp, hlt⟩ := h K L hKL
    have := H.hull.left i hi p hp
    rw [e] at this ⊢
    omega
theorem where_le {P u : List Pt} (H : HullY P u) (hu : Conv15 u) {o : Pt} (ho : near 8000 o) : whereM u o ≠ 0 ↔ ∀ K L : Int, ∃ p ∈ P, lin K L p ≤ lin K L o := by
  rw [where_not (validB_iff.2 hu) ho]
  constructor
  · intro h K L
    obtain ⟨v, hv, hl, -⟩ := low_in hu h K L
    exact ⟨v, H.hull.sub v hv, hl⟩
  · intro h i hi
    obtain ⟨K, L, c, hKL, e⟩ := edge_form hu.2.2.2 hu.1 hi
    obtain ⟨p, hp, hlt⟩ := h K L
    have := H.hull.left i hi p hp
    rw [e] at this ⊢
    omega
theorem placeL_three {r : List Pt} {p : Pt} : ∀ (l : List Nat) (out : Int), (out = 0 ∨ out = 1 ∨ out = 2) → (placeL r p l out = 0 ∨ placeL r p l out = 1 ∨ placeL r p l out = 2)
  | [], out, h => h
  | i :: l, out, h => by
    unfold placeL
    split
    · exact .inl rfl
    · split
      · exact placeL_three l 1 (.inr (.inl rfl))
      · exact placeL_three l out h
theorem where_three (r : List Pt) (p : Pt) : whereM r p = 0 ∨ whereM r p = 1 ∨ whereM r p = 2 := by
  unfold whereM
  split
  · exact placeL_three _ 2 (.inr (.inr rfl))
  · exact .inl rfl
/-- Inside of the differences, and not outside of them. -/
def InD (r s : List Pt) (v : Pt) : Prop := ∀ K L : Int, (K ≠ 0 ∨ L ≠ 0) → ∃ a ∈ r, ∃ b ∈ s, lin K L a - lin K L b < lin K L v
def OnD (r s : List Pt) (v : Pt) : Prop := ∀ K L : Int, ∃ a ∈ r, ∃ b ∈ s, lin K L a - lin K L b ≤ lin K L v
theorem lin_negN (K L : Int) (p : Pt) : lin (-K) (-L) p = - lin K L p := by unfold lin; grind
theorem lin_negP (K L : Int) (p : Pt) : lin K L (negP p) = - lin K L p := by rw [lin_neg', lin_negN]
theorem InD.swap {r s : List Pt} {v : Pt} (h : InD r s v) : InD s r (negP v) := fun K L hKL => by
  obtain ⟨a, ha, b, hb, hl⟩ := h (-K) (-L) (by omega)
  rw [lin_negN, lin_negN, lin_negN] at hl
  exact ⟨b, hb, a, ha, by rw [lin_negP]; omega⟩
theorem OnD.swap {r s : List Pt} {v : Pt} (h : OnD r s v) : OnD s r (negP v) := fun K L => by
  obtain ⟨a, ha, b, hb, hl⟩ := h (-K) (-L)
  rw [lin_negN, lin_negN, lin_negN] at hl
  exact ⟨b, hb, a, ha, by rw [lin_negP]; omega⟩
theorem negP_negP (v : Pt) : negP (negP v) = v := Prod.ext (by simp [negP]) (by simp [negP])
theorem InD.swap_iff {r s : List Pt} {v : Pt} : InD s r (negP v) ↔ InD r s v := ⟨fun h => by have := h.swap; rwa [negP_negP] at this, InD.swap⟩
theorem OnD.swap_iff {r s : List Pt} {v : Pt} : OnD s r (negP v) ↔ OnD r s v := ⟨fun h => by have := h.swap; rwa [negP_negP] at this, OnD.swap⟩
theorem hull_low {P u : List Pt} (H : HullY P u) (K L : Int) {p : Pt} (hp : p ∈ P) : ∃ q ∈ u, lin K L q ≤ lin K L p := by
  obtain ⟨i, hi, hm⟩ := H.hull.least K L
  exact ⟨_, at0_mem hi, hm p hp⟩
theorem InD.mov {r r' s : List Pt} {v t : Pt} (H : HullY (r.map (fun p => addP p t)) r') : InD r' s (addP v t) ↔ InD r s v := by
  constructor
  · intro h K L hKL
    obtain ⟨a, ha, b, hb, hl⟩ := h K L hKL
    obtain ⟨q, hq, rfl⟩ := List.mem_map.1 (H.hull.sub a ha)
    rw [lin_add, lin_add] at hl
    exact ⟨q, hq, b, hb, by omega⟩
  · intro h K L hKL
    obtain ⟨a, ha, b, hb, hl⟩ := h K L hKL
    obtain ⟨q, hq, hq2⟩ := hull_low H K L (List.mem_map.2 ⟨a, ha, rfl⟩)
    rw [lin_add] at hq2
    exact ⟨q, hq, b, hb, by rw [lin_add]; omega⟩
/-- The ring of the differences of two rings. -/
structure DiffR (r s : List Pt) (u : List Pt) : Prop where
  hull : HullY (sums2 r (s.map negP)) u
  conv : Conv15 u
theorem DiffR.two {r s u : List Pt} (h : DiffR r s u) {v : Pt} (hv : near 8000 v) : whereM u v = 2 ↔ InD r s v := by
  rw [where_less h.hull h.conv hv]
  constructor
  · intro q K L hKL
    obtain ⟨p, hp, hl⟩ := q K L hKL
    obtain ⟨a, ha, b, hb, rfl⟩ := mem_sums2.1 hp
    obtain ⟨c, hc, rfl⟩ := List.mem_map.1 hb
    rw [lin_add, lin_negP] at hl
    exact ⟨a, ha, c, hc, by omega⟩
  · intro q K L hKL
    obtain ⟨a, ha, b, hb, hl⟩ := q K L hKL
    exact ⟨_, mem_sums2.2 ⟨a, ha, negP b, List.mem_map.2 ⟨b, hb, rfl⟩, rfl⟩, by rw [lin_add, lin_negP]; omega⟩
theorem DiffR.not {r s u : List Pt} (h : DiffR r s u) {v : Pt} (hv : near 8000 v) : whereM u v ≠ 0 ↔ OnD r s v := by
  rw [where_le h.hull h.conv hv]
  constructor
  · intro q K L
    obtain ⟨p, hp, hl⟩ := q K L
    obtain ⟨a, ha, b, hb, rfl⟩ := mem_sums2.1 hp
    obtain ⟨c, hc, rfl⟩ := List.mem_map.1 hb
    rw [lin_add, lin_negP] at hl
    exact ⟨a, ha, c, hc, by omega⟩
  · intro q K L
    obtain ⟨a, ha, b, hb, hl⟩ := q K L
    exact ⟨_, mem_sums2.2 ⟨a, ha, negP b, List.mem_map.2 ⟨b, hb, rfl⟩, rfl⟩, by rw [lin_add, lin_negP]; omega⟩
theorem DiffR.one {r s u : List Pt} (h : DiffR r s u) {v : Pt} (hv : near 8000 v) : whereM u v = 1 ↔ (OnD r s v ∧ ¬ InD r s v) := by
  rw [← h.not hv, ← h.two hv]
  have := where_three u v
  omega
/-- A ring that is small and right. -/
def RingN (m : Int) (n : Nat) (r : List Pt) : Prop := Conv15 r ∧ (∀ p ∈ r, near m p) ∧ r.length ≤ n
theorem NegP.ok {m : Int} (hm : m ≤ 8000) {n : Nat} : ∀ {ms acc : List (List Pt)} {out : List (List Pt) × Int}, (∀ s ∈ ms, RingN m n s) → NegP ms acc out → out.2 = 0 ∧ ∃ ts, out.1 = acc ++ ts ∧ ts.length = ms.length ∧ (∀ t ∈ ts, ∃ s ∈ ms, HullY (s.map negP) t ∧ RingN m n t) ∧ (∀ s ∈ ms, ∃ t ∈ ts, HullY (s.map negP) t ∧ RingN m n t)
  | [], acc, out, _, h => by
    rw [show out = (acc, 0) from h]
    exact ⟨rfl, [], by simp, rfl, (fun t ht => by cases ht), (fun t ht => by cases ht)⟩
  | x :: xs, acc, out, hx, ⟨o, h1, h2⟩ => by
    obtain ⟨c, nr, ln⟩ := hx x (by simp)
    obtain ⟨q0, q1, q2, q3, q4⟩ := h1.ok hm c nr
    rw [if_pos q0] at h2
    obtain ⟨e, ts, e1, e2, e3, e4⟩ := NegP.ok hm (fun s hs => hx s (by simp [hs])) h2
    have ho : RingN m n o.1 := ⟨q2, q3, by omega⟩
    refine ⟨e, o.1 :: ts, by rw [e1]; simp, by simp [e2], fun t ht => ?_, fun s hs => ?_⟩
    · rcases List.mem_cons.1 ht with rfl | ht
      · exact ⟨x, by simp, q1, ho⟩
      · obtain ⟨s, hs, q⟩ := e3 t ht
        exact ⟨s, by simp [hs], q⟩
    · rcases List.mem_cons.1 hs with rfl | hs
      · exact ⟨o.1, by simp, q1, ho⟩
      · obtain ⟨t, ht, q⟩ := e4 s hs
        exact ⟨t, by simp [ht], q⟩
theorem AllP.ok {m k : Int} (hm : m + k ≤ 8000) {n j : Nat} (hn : n + j ≤ 160) : ∀ {ps : List (List Pt × List Pt)} {acc : List (List Pt)} {out : List (List Pt) × Int}, (∀ p ∈ ps, RingN m n p.1 ∧ RingN k j p.2) → AllP ps acc out → out.2 = 0 ∧ ∃ us, out.1 = acc ++ us ∧ us.length = ps.length ∧ (∀ u ∈ us, ∃ p ∈ ps, HullY (sums2 p.1 p.2) u ∧ RingN (m + k) (n + j) u) ∧ (∀ p ∈ ps, ∃ u ∈ us, HullY (sums2 p.1 p.2) u ∧ RingN (m + k) (n + j) u)
  | [], acc, out, _, h => by
    rw [show out = (acc, 0) from h]
    exact ⟨rfl, [], by simp, rfl, (fun t ht => by cases ht), (fun t ht => by cases ht)⟩
  | (x, y) :: ps, acc, out, hx, ⟨o, h1, h2⟩ => by
    obtain ⟨⟨c, nr, ln⟩, ⟨c', nr', ln'⟩⟩ := hx (x, y) (by simp)
    simp only at c nr ln c' nr' ln'
    obtain ⟨q0, q1, q2, q3, q4⟩ := sum_ok hm c c' nr nr' (by omega) h1
    rw [if_pos q0] at h2
    obtain ⟨e, ts, e1, e2, e3, e4⟩ := AllP.ok hm hn (fun s hs => hx s (by simp [hs])) h2
    have ho : RingN (m + k) (n + j) o.1 := ⟨q2, q3, by omega⟩
    refine ⟨e, o.1 :: ts, by rw [e1]; simp, by simp [e2], fun t ht => ?_, fun s hs => ?_⟩
    · rcases List.mem_cons.1 ht with rfl | ht
      · exact ⟨(x, y), by simp, q1, ho⟩
      · obtain ⟨s, hs, q⟩ := e3 t ht
        exact ⟨s, by simp [hs], q⟩
    · rcases List.mem_cons.1 hs with rfl | hs
      · exact ⟨o.1, by simp, q1, ho⟩
      · obtain ⟨t, ht, q⟩ := e4 s hs
        exact ⟨t, by simp [ht], q⟩
theorem mem_pairsOf {rs ss : List (List Pt)} {p : List Pt × List Pt} : p ∈ pairsOf rs ss ↔ p.1 ∈ rs ∧ p.2 ∈ ss := by
  unfold pairsOf
  rw [List.mem_flatMap]
  constructor
  · rintro ⟨x, hx, h⟩
    obtain ⟨y, hy, rfl⟩ := List.mem_map.1 h
    exact ⟨hx, hy⟩
  · rintro ⟨h1, h2⟩
    exact ⟨p.1, h1, List.mem_map.2 ⟨p.2, h2, rfl⟩⟩
theorem pairsOf_len (rs ss : List (List Pt)) : (pairsOf rs ss).length = rs.length * ss.length := by
  unfold pairsOf
  induction rs with
  | nil => simp
  | cons x rs ih => rw [List.flatMap_cons, List.length_append, ih, List.length_map, List.length_cons, Nat.succ_mul, Nat.add_comm]
/-- A forbidden set, by its pairs. -/
structure OfIs (fs ms Z : List (List Pt)) : Prop where
  here : ∀ u ∈ Z, ∃ r ∈ fs, ∃ s ∈ ms, DiffR r s u
  all : ∀ r ∈ fs, ∀ s ∈ ms, ∃ u ∈ Z, DiffR r s u
  ring : ∀ u ∈ Z, u.length ≤ 160
theorem OfV.ok {m k : Int} (hm0 : 0 ≤ m ∧ 0 ≤ k) (hm : m + k ≤ 8000) {n j : Nat} (hn : n + j ≤ 160) {fs ms : List (List Pt)} {out : List (List Pt) × Int} (hl : fs.length * ms.length ≤ 10000) (hf : ∀ r ∈ fs, RingN m n r) (hs : ∀ s ∈ ms, RingN k j s) (h : OfV fs ms out) : out.2 = 0 ∧ out.1.length = fs.length * ms.length ∧ OfIs fs ms out.1 := by
  unfold OfV at h
  rw [if_neg (by omega)] at h
  obtain ⟨ng, h1, h2⟩ := h
  obtain ⟨e, ts, e1, e2, e3, e4⟩ := h1.ok (by omega) hs
  rw [if_pos e] at h2
  rw [List.nil_append] at e1
  obtain ⟨f, us, f1, f2, f3, f4⟩ := AllP.ok hm hn (fun p hp => by
    obtain ⟨p1, p2⟩ := mem_pairsOf.1 hp
    obtain ⟨s, hs', q⟩ := e3 p.2 (by rw [e1] at p2; exact p2)
    exact ⟨hf _ p1, q.2⟩) h2
  rw [List.nil_append] at f1
  have diff : ∀ {r s t u : List Pt}, RingN m n r → RingN k j s → HullY (s.map negP) t → HullY (sums2 r t) u → Conv15 u → DiffR r s u := fun hr hs ht hu hc => by
    refine ⟨?_, hc⟩
    exact sums_hull2 (m := k) (n := m) (by omega) ht (fun q hq => by
      obtain ⟨p, hp, rfl⟩ := List.mem_map.1 hq
      exact near_neg (hs.2.1 p hp)) hr.2.1 hu
  refine ⟨f, by rw [f1, f2, pairsOf_len, e1, e2], ⟨fun u hu => ?_, fun r hr s hs' => ?_, fun u hu => ?_⟩⟩
  · obtain ⟨p, hp, q1, q2⟩ := f3 u (by rw [f1] at hu; exact hu)
    obtain ⟨p1, p2⟩ := mem_pairsOf.1 hp
    obtain ⟨s, hs', q⟩ := e3 p.2 (by rw [e1] at p2; exact p2)
    exact ⟨p.1, p1, s, hs', diff (hf _ p1) (hs s hs') q.1 q1 q2.1⟩
  · obtain ⟨t, ht, q⟩ := e4 s hs'
    obtain ⟨u, hu, q1, q2⟩ := f4 (r, t) (mem_pairsOf.2 ⟨hr, by rw [e1]; exact ht⟩)
    exact ⟨u, by rw [f1]; exact hu, diff (hf _ hr) (hs s hs') q.1 q1 q2.1⟩
  · obtain ⟨p, hp, q1, q2⟩ := f3 u (by rw [f1] at hu; exact hu)
    exact q2.1.2.1
theorem OfIs.forb {fs ms Z : List (List Pt)} (h : OfIs fs ms Z) {v : Pt} (hv : near 8000 v) : forbB Z v = true ↔ ∃ r ∈ fs, ∃ s ∈ ms, InD r s v := by
  unfold forbB
  rw [List.any_eq_true]
  constructor
  · rintro ⟨u, hu, q⟩
    obtain ⟨r, hr, s, hs, d⟩ := h.here u hu
    exact ⟨r, hr, s, hs, (d.two hv).1 (by simpa using q)⟩
  · rintro ⟨r, hr, s, hs, q⟩
    obtain ⟨u, hu, d⟩ := h.all r hr s hs
    exact ⟨u, hu, by simpa using (d.two hv).2 q⟩
theorem OfIs.on {fs ms Z : List (List Pt)} (h : OfIs fs ms Z) {v : Pt} (hv : near 8000 v) : (Z.any (fun r => whereM r v == 1)) = true ↔ ∃ r ∈ fs, ∃ s ∈ ms, OnD r s v ∧ ¬ InD r s v := by
  rw [List.any_eq_true]
  constructor
  · rintro ⟨u, hu, q⟩
    obtain ⟨r, hr, s, hs, d⟩ := h.here u hu
    exact ⟨r, hr, s, hs, (d.one hv).1 (by simpa using q)⟩
  · rintro ⟨r, hr, s, hs, q⟩
    obtain ⟨u, hu, d⟩ := h.all r hr s hs
    exact ⟨u, hu, by simpa using (d.one hv).2 q⟩
theorem OfIs.swapF {fs ms Z Z' : List (List Pt)} (h : OfIs fs ms Z) (h' : OfIs ms fs Z') {v : Pt} (hv : near 8000 v) : forbB Z' (negP v) = forbB Z v := by
  rw [Bool.eq_iff_iff, h.forb hv, h'.forb (near_neg hv)]
  constructor
  · rintro ⟨s, hs, r, hr, q⟩; exact ⟨r, hr, s, hs, InD.swap_iff.1 q⟩
  · rintro ⟨r, hr, s, hs, q⟩; exact ⟨s, hs, r, hr, InD.swap_iff.2 q⟩
theorem OfIs.swapT {fs ms Z Z' : List (List Pt)} (h : OfIs fs ms Z) (h' : OfIs ms fs Z') {v : Pt} (hv : near 8000 v) : touchB Z' (negP v) = touchB Z v := by
  unfold touchB
  rw [h.swapF h' hv]
  congr 1
  rw [Bool.eq_iff_iff, h.on hv, h'.on (near_neg hv)]
  constructor
  · rintro ⟨s, hs, r, hr, q, q'⟩; exact ⟨r, hr, s, hs, OnD.swap_iff.1 q, fun i => q' (InD.swap_iff.2 i)⟩
  · rintro ⟨r, hr, s, hs, q, q'⟩; exact ⟨s, hs, r, hr, OnD.swap_iff.2 q, fun i => q' (InD.swap_iff.1 i)⟩
theorem OfIs.movF {fs fs' ms Z Z' : List (List Pt)} {t : Pt} (h : OfIs fs ms Z) (h' : OfIs fs' ms Z') (h1 : ∀ r' ∈ fs', ∃ r ∈ fs, HullY (r.map (fun p => addP p t)) r') (h2 : ∀ r ∈ fs, ∃ r' ∈ fs', HullY (r.map (fun p => addP p t)) r') {v : Pt} (hv : near 8000 v) (hv' : near 8000 (addP v t)) : forbB Z' (addP v t) = forbB Z v := by
  rw [Bool.eq_iff_iff, h.forb hv, h'.forb hv']
  constructor
  · rintro ⟨r', hr', s, hs, q⟩
    obtain ⟨r, hr, H⟩ := h1 r' hr'
    exact ⟨r, hr, s, hs, (InD.mov H).1 q⟩
  · rintro ⟨r, hr, s, hs, q⟩
    obtain ⟨r', hr', H⟩ := h2 r hr
    exact ⟨r', hr', s, hs, (InD.mov H).2 q⟩
theorem forbB_append (Z Y : List (List Pt)) (v : Pt) : forbB (Z ++ Y) v = (forbB Z v || forbB Y v) := by unfold forbB; rw [List.any_append]

/-- A number that a form stays below. -/
theorem bound_of (f : Pt → Int) : ∀ l : List Pt, ∃ N : Int, 0 < N ∧ ∀ q ∈ l, f q < N ∧ -(f q) < N
  | [] => ⟨1, by omega, fun q hq => by cases hq⟩
  | a :: l => by
    obtain ⟨N, h0, h⟩ := bound_of f l
    refine ⟨max N (max (f a + 1) (-(f a) + 1)), by omega, fun q hq => ?_⟩
    rcases List.mem_cons.1 hq with rfl | hq
    · omega
    · have := h q hq; omega
/-- Three points of a line: the one between the others is not lower than both. -/
theorem mid_low {K L K' L' : Int} (hKL : K ≠ 0 ∨ L ≠ 0) {D E : Pt} (hD : lin K L D = 0) (hE : lin K L E = 0) (h1 : 0 ≤ lin (-L) K E) (h2 : lin (-L) K E ≤ lin (-L) K D) : 0 ≤ lin K' L' E ∨ lin K' L' D ≤ lin K' L' E := by
  have hn : 0 < K * K + L * L := by
    rcases hKL with h | h
    · have := sq_nonneg L
      have : 0 < K * K := by
        have h3 := sq_nonneg K
        have : K * K ≠ 0 := fun e => h (by rcases Int.mul_eq_zero.1 e with q | q <;> exact q)
        omega
      omega
    · have := sq_nonneg K
      have : 0 < L * L := by
        have h3 := sq_nonneg L
        have : L * L ≠ 0 := fun e => h (by rcases Int.mul_eq_zero.1 e with q | q <;> exact q)
        omega
      omega
  have id : ∀ X : Pt, (K * K + L * L) * lin K' L' X = lin K L X * (K * K' + L * L') + lin (-L) K X * (K * L' - L * K') := fun X => by unfold lin; grind
  have iE := id E
  have iD := id D
  rw [hE, Int.zero_mul, Int.zero_add] at iE
  rw [hD, Int.zero_mul, Int.zero_add] at iD
  generalize K * L' - L * K' = g at *
  generalize lin (-L) K E = e at *
  generalize lin (-L) K D = d at *
  by_cases hg : 0 ≤ g
  · left
    exact nonneg_of_mul hn (by rw [iE]; exact Int.mul_nonneg h1 hg)
  · right
    have h3 : 0 ≤ (d - e) * (-g) := Int.mul_nonneg (by omega) (by omega)
    have h4 : (K * K + L * L) * (lin K' L' E - lin K' L' D) = (d - e) * (-g) := by
      rw [Int.mul_sub, iE, iD]; grind
    have := nonneg_of_mul (b := lin K' L' E - lin K' L' D) hn (by rw [h4]; exact h3)
    omega
/-- Where two polygons touch, a vertex of one of them lies on the other. -/
theorem touch_vertex {A B : List Pt} {v : Pt} (hOn : OnD A B v) (hIn : ¬ InD A B v) :
    (∃ a ∈ A, ∀ K L : Int, ∃ b ∈ B, lin K L b + lin K L v ≤ lin K L a) ∨ (∃ b ∈ B, ∀ K L : Int, ∃ a ∈ A, lin K L a ≤ lin K L b + lin K L v) := by
  obtain ⟨K, L, hKL, hsep⟩ : ∃ K L : Int, (K ≠ 0 ∨ L ≠ 0) ∧ ∀ a ∈ A, ∀ b ∈ B, lin K L v ≤ lin K L a - lin K L b := by
    refine Classical.byContradiction fun hc => hIn fun K L hKL => Classical.byContradiction fun hd => hc ⟨K, L, hKL, fun a ha b hb => ?_⟩
    rcases Int.lt_or_le (lin K L a - lin K L b) (lin K L v) with q | q
    · exact absurd ⟨a, ha, b, hb, q⟩ hd
    · exact q
  obtain ⟨a0, ha0, b0, hb0, h0⟩ := hOn K L
  have e0 : lin K L a0 - lin K L b0 = lin K L v := by have := hsep a0 ha0 b0 hb0; omega
  have lowA : ∀ a ∈ A, lin K L a0 ≤ lin K L a := fun a ha => by have := hsep a ha b0 hb0; omega
  have lowB : ∀ b ∈ B, lin K L b ≤ lin K L b0 := fun b hb => by have := hsep a0 ha0 b hb; omega
  have hFA : ∀ {a : Pt}, a ∈ A.filter (fun a => decide (lin K L a = lin K L a0)) ↔ a ∈ A ∧ lin K L a = lin K L a0 := fun {a} => by rw [List.mem_filter]; simp
  have hFB : ∀ {b : Pt}, b ∈ B.filter (fun b => decide (lin K L b = lin K L b0)) ↔ b ∈ B ∧ lin K L b = lin K L b0 := fun {a} => by rw [List.mem_filter]; simp
  have nA : A.filter (fun a => decide (lin K L a = lin K L a0)) ≠ [] := List.ne_nil_of_mem (hFA.2 ⟨ha0, rfl⟩)
  have nB : B.filter (fun b => decide (lin K L b = lin K L b0)) ≠ [] := List.ne_nil_of_mem (hFB.2 ⟨hb0, rfl⟩)
  generalize A.filter (fun a => decide (lin K L a = lin K L a0)) = FA at *
  generalize B.filter (fun b => decide (lin K L b = lin K L b0)) = FB at *
  obtain ⟨i1, j1, m1⟩ := exists_least (fun p => lin (-L) K p) nA
  obtain ⟨i2, j2, m2⟩ := exists_least (fun p => -(lin (-L) K p)) nA
  obtain ⟨i3, j3, m3⟩ := exists_least (fun p => lin (-L) K p) nB
  obtain ⟨i4, j4, m4⟩ := exists_least (fun p => -(lin (-L) K p)) nB
  have s1 := hFA.1 (at0_mem j1)
  have s2 := hFA.1 (at0_mem j2)
  have s3 := hFB.1 (at0_mem j3)
  have s4 := hFB.1 (at0_mem j4)
  generalize at0 FA i1 = a1 at *
  generalize at0 FA i2 = a2 at *
  generalize at0 FB i3 = b1 at *
  generalize at0 FB i4 = b2 at *
  obtain ⟨NA, pA, bA⟩ := bound_of (fun p => lin (-L) K p) A
  obtain ⟨NB, pB, bB⟩ := bound_of (fun p => lin (-L) K p) B
  obtain ⟨NV, pV, bV⟩ := bound_of (fun p => lin (-L) K p) [v]
  have bv := bV v (by simp)
  have lin_mix : ∀ (N σ : Int) (p : Pt), lin (N * K - σ * L) (N * L + σ * K) p = N * lin K L p + σ * lin (-L) K p := fun N σ p => by unfold lin; grind
  have ov : ∀ σ : Int, (σ = 1 ∨ σ = -1) → ∃ a ∈ FA, ∃ b ∈ FB, σ * lin (-L) K a - σ * lin (-L) K b ≤ σ * lin (-L) K v := fun σ hσ => by
    obtain ⟨a, ha, b, hb, hl⟩ := hOn ((NA + NB + NV) * K - σ * L) ((NA + NB + NV) * L + σ * K)
    rw [lin_mix, lin_mix, lin_mix] at hl
    have x1 := bA a ha
    have x2 := bB b hb
    have y1 := lowA a ha
    have y2 := lowB b hb
    have tA : -NA < σ * lin (-L) K a := by rcases hσ with rfl | rfl <;> omega
    have tB : σ * lin (-L) K b < NB := by rcases hσ with rfl | rfl <;> omega
    have tV : σ * lin (-L) K v < NV := by rcases hσ with rfl | rfl <;> omega
    have hz : lin K L a - lin K L b - lin K L v ≤ 0 := by
      rcases Int.lt_or_le 0 (lin K L a - lin K L b - lin K L v) with q | q
      · exfalso
        have q2 : (NA + NB + NV) * 1 ≤ (NA + NB + NV) * (lin K L a - lin K L b - lin K L v) := Int.mul_le_mul_of_nonneg_left (by omega) (by omega)
        rw [Int.mul_sub, Int.mul_sub] at q2
        omega
      · exact q
    have ea : lin K L a = lin K L a0 := by omega
    have eb : lin K L b = lin K L b0 := by omega
    refine ⟨a, hFA.2 ⟨ha, ea⟩, b, hFB.2 ⟨hb, eb⟩, ?_⟩
    have q3 : (NA + NB + NV) * lin K L v = (NA + NB + NV) * lin K L a - (NA + NB + NV) * lin K L b := by rw [← Int.mul_sub, ea, eb, e0]
    omega
  obtain ⟨x, hx, y, hy, hxy⟩ := ov 1 (.inl rfl)
  obtain ⟨x', hx', y', hy', hxy'⟩ := ov (-1) (.inr rfl)
  have c1 := m1 x hx
  have c2 := m4 y hy
  have c3 := m2 x' hx'
  have c4 := m3 y' hy'
  have c5 := m2 a1 (hFA.2 s1)
  have c6 := m4 b1 (hFB.2 s3)
  have c7 := m1 a2 (hFA.2 s2)
  have c8 := m3 b2 (hFB.2 s4)
  have lin_sub : ∀ (K L : Int) (p q : Pt), lin K L (subP p q) = lin K L p - lin K L q := fun K L p q => by unfold lin subP; grind
  rcases Int.lt_or_le (lin (-L) K a1) (lin (-L) K b1 + lin (-L) K v) with hc | hc
  · right
    refine ⟨b1, s3.1, fun K' L' => ?_⟩
    rcases mid_low (K' := K') (L' := L') hKL (D := subP a2 a1) (E := subP (addP b1 v) a1) (by rw [lin_sub]; omega) (by rw [lin_sub, lin_add]; omega) (by rw [lin_sub, lin_add]; omega) (by rw [lin_sub, lin_sub, lin_add]; omega) with q | q
    · exact ⟨a1, s1.1, by rw [lin_sub, lin_add] at q; omega⟩
    · exact ⟨a2, s2.1, by rw [lin_sub, lin_sub, lin_add] at q; omega⟩
  · left
    refine ⟨a1, s1.1, fun K' L' => ?_⟩
    rcases mid_low (K' := K') (L' := L') hKL (D := subP b2 b1) (E := subP a1 (addP b1 v)) (by rw [lin_sub]; omega) (by rw [lin_sub, lin_add]; omega) (by rw [lin_sub, lin_add]; omega) (by rw [lin_sub, lin_sub, lin_add]; omega) with q | q
    · exact ⟨b1, s3.1, by rw [lin_sub, lin_add] at q; omega⟩
    · exact ⟨b2, s4.1, by rw [lin_sub, lin_sub, lin_add] at q; omega⟩
end Go.Proofs.YtpbgimdbhgahkaaGreat
