/- Layer 15 (plain): what the reference makes of points is their hull; what Sum makes of sorted edges, too. -/
import Derived.Test.YtpbgimdbhgahkaaGreatMinkP6
import Derived.Test.YtpbgimdbhgahkaaGreatMink11
import Derived.Test.YtpbgimdbhgahkaaGreatMinkS5
namespace Go.Proofs.YtpbgimdbhgahkaaGreat
open Go.RowKit Go.Sort
set_option linter.unusedVariables false
set_option linter.unusedSimpArgs false

theorem hull_or_lin {K L : Int} {pts : List Pt} (hpw : pts.Pairwise (fun x y => lin K L x < lin K L y)) (h2 : 2 ≤ pts.length) :
    2 ≤ (lowC pts).length ∧ 2 ≤ (lowC pts.reverse).length ∧
    ((3 ≤ (lowC pts).length - 1 + ((lowC pts.reverse).length - 1) ∧ IsHull pts ((lowC pts).dropLast ++ (lowC pts.reverse).dropLast) ∧ at0 ((lowC pts).dropLast ++ (lowC pts.reverse).dropLast) 0 = at0 pts 0) ∨
     ((lowC pts).length - 1 + ((lowC pts.reverse).length - 1) < 3 ∧ ∀ u ∈ pts, ∀ v ∈ pts, ∀ w ∈ pts, det u v w = 0)) := by
  have hpr : pts.reverse.Pairwise (fun x y => lin (-K) (-L) x < lin (-K) (-L) y) := by
    rw [List.pairwise_reverse]
    refine hpw.imp ?_
    intro a b hab
    rw [lin_neg, lin_neg]; omega
  obtain ⟨a, rest, rfl⟩ : ∃ a rest, pts = a :: rest := by
    cases pts with
    | nil => simp at h2
    | cons a rest => exact ⟨a, rest, rfl⟩
  obtain ⟨b, rest', hr⟩ : ∃ b rest', (a :: rest).reverse = b :: rest' := by
    cases h : (a :: rest).reverse with
    | nil => simp at h
    | cons b rest' => exact ⟨b, rest', rfl⟩
  have hlast : (a :: rest).getLast (by simp) = b := by
    have := congrArg List.head? hr
    rw [List.head?_reverse, List.getLast?_eq_some_getLast (by simp)] at this
    simpa using this
  have hlast' : (b :: rest').getLast (by simp) = a := by
    have := congrArg List.getLast? hr
    rw [List.getLast?_reverse] at this
    rw [List.getLast?_eq_some_getLast (by simp)] at this
    simp at this
    exact this.symm
  have hmem : ∀ q, q ∈ a :: rest ↔ q ∈ b :: rest' := fun q => by rw [← hr, List.mem_reverse]
  obtain ⟨c1, s1, e1, l1⟩ := chain_of hpw
  rw [hlast] at e1
  rw [hr] at hpr ⊢
  obtain ⟨c2, s2, e2, l2⟩ := chain_of hpr
  rw [hlast'] at e2
  have hab : lin K L a < lin K L b := by
    have hb : b ∈ rest := by
      rw [← hlast]
      cases rest with
      | nil => simp at h2
      | cons x r => rw [List.getLast_cons (by simp)]; exact List.getLast_mem _
    exact (List.pairwise_cons.1 hpw).1 b hb
  have hne : a ≠ b := by rintro rfl; omega
  have c2' : Chain (-K) (-L) (a :: rest) (lowC (b :: rest')) := ⟨c2.asc, c2.strict, fun i hi q hq => c2.left i hi q ((hmem q).1 hq), fun q hq => (hmem q).2 (c2.sub q hq)⟩
  have g1 : 2 ≤ (lowC (a :: rest)).length := by
    have hl : (lowC (a :: rest)).length = (chainC [] (a :: rest)).length := by unfold lowC; simp
    rcases Nat.lt_or_ge 1 (lowC (a :: rest)).length with h | h
    · exact h
    · exfalso
      have hz : (chainC [] (a :: rest)).reverse.length - 1 = 0 := by simp; omega
      rw [hz, s1] at e1
      exact hne e1
  have g2 : 2 ≤ (lowC (b :: rest')).length := by
    have hl : (lowC (b :: rest')).length = (chainC [] (b :: rest')).length := by unfold lowC; simp
    rcases Nat.lt_or_ge 1 (lowC (b :: rest')).length with h | h
    · exact h
    · exfalso
      have hz : (chainC [] (b :: rest')).reverse.length - 1 = 0 := by simp; omega
      rw [hz, s2] at e2
      exact hne e2.symm
  refine ⟨g1, g2, ?_⟩
  rcases Nat.lt_or_ge ((lowC (a :: rest)).length - 1 + ((lowC (b :: rest')).length - 1)) 3 with h3 | h3
  · right
    refine ⟨h3, ?_⟩
    have z1 : (lowC (a :: rest)).length = 2 := by omega
    have z2 : (lowC (b :: rest')).length = 2 := by omega
    have t1 : at0 (lowC (a :: rest)) 1 = b := by
      have : (chainC [] (a :: rest)).reverse.length - 1 = 1 := by unfold lowC at z1; rw [z1]
      rw [this] at e1; exact e1
    have t2 : at0 (lowC (b :: rest')) 1 = a := by
      have : (chainC [] (b :: rest')).reverse.length - 1 = 1 := by unfold lowC at z2; rw [z2]
      rw [this] at e2; exact e2
    have hz : ∀ q ∈ a :: rest, det a b q = 0 := by
      intro q hq
      have k1 := c1.left 0 (by show 0 + 1 < (lowC (a :: rest)).length; omega) q hq
      have k2 := c2'.left 0 (by omega) q hq
      rw [s1, show at0 (chainC [] (a :: rest)).reverse (0 + 1) = b from t1] at k1
      rw [show at0 (lowC (b :: rest')) 0 = b from s2, show at0 (lowC (b :: rest')) (0 + 1) = a from t2] at k2
      have := det_swap a b q
      omega
    intro u hu v hv w hw
    exact line_all hab (hz u hu) (hz v hv) (hz w hw)
  · left
    refine ⟨h3, hull_ring (k := K) (l := L) c1 c2' g1 g2 ?_ ?_ h3, ?_⟩
    · exact s2.trans e1.symm
    · exact e2.trans s1.symm
    · have hl : 0 < (lowC (a :: rest)).dropLast.length := by simp; omega
      have : at0 ((lowC (a :: rest)).dropLast ++ (lowC (b :: rest')).dropLast) 0 = at0 (lowC (a :: rest)) 0 := by
        rw [at0_eq (by simp; omega), at0_eq (by omega), List.getElem_append_left hl, List.getElem_dropLast]
      rw [this]
      exact s1

def hull15V (l : List Pt) : List Pt := (lowC (sortedV l)).dropLast ++ (lowC (sortedV l).reverse).dropLast
theorem ltV_lexy {p q : Pt} : ltV p q = true ↔ lexy p q := ltV_iff p q
theorem sorted_lin {l : List Pt} (hn : ∀ q ∈ l, near 20000 q) : (sortedV l).Pairwise (fun x y => lin 1 40001 x < lin 1 40001 y) := by
  obtain ⟨h1, h2⟩ := sortedV_strict l
  refine List.Pairwise.imp_of_mem ?_ h1
  intro a b ha hb hab
  exact lexy_lin (hn a ((h2 a).1 ha)) (hn b ((h2 b).1 hb)) (ltV_lexy.1 hab)
theorem hull15_hull {l u : List Pt} (hn : ∀ q ∈ l, near 20000 q) (H : HullY l u) : hull15V l = u := by
  have hp := sorted_lin hn
  obtain ⟨h1, h2⟩ := sortedV_strict l
  have h3 := H.hull.three
  have hul : ∀ q ∈ u, q ∈ sortedV l := fun q hq => (h2 q).2 (H.hull.sub q hq)
  have hlen : 2 ≤ (sortedV l).length := by
    have a := hul _ (at0_mem (c := u) (i := 0) (by omega))
    have b := hul _ (at0_mem (c := u) (i := 1) (by omega))
    have c := H.hull.distinct (i := 0) (k := 1) (by omega) (by omega) (by omega)
    rcases Nat.lt_or_ge (sortedV l).length 2 with q | q
    · exfalso
      match hs : sortedV l, q with
      | [], _ => rw [hs] at a; cases a
      | [x], _ =>
        rw [hs, List.mem_singleton] at a b
        exact c (a.trans b.symm)
      | _ :: _ :: _, q => simp at q; omega
    · exact q
  obtain ⟨g1, g2, g⟩ := hull_or_lin hp hlen
  have Hs : HullY (sortedV l) u := H.more (fun q hq => (h2 q).1 hq) hul
  rcases g with ⟨_, g3, g4⟩ | ⟨_, g3⟩
  · refine HullY.unique (pts := sortedV l) ⟨g3, fun q hq => ?_⟩ Hs
    show at0 ((lowC (sortedV l)).dropLast ++ (lowC (sortedV l).reverse).dropLast) 0 = q ∨ _
    unfold hull15V
    rw [g4]
    obtain ⟨i, hi, rfl⟩ := mem_at hq
    by_cases i0 : i = 0
    · left; rw [i0]
    · right
      have := List.pairwise_iff_getElem.1 h1 0 i (by omega) hi (by omega)
      rw [at0_eq (by omega), at0_eq hi]
      exact ltV_lexy.1 this
  · obtain ⟨a, ha, b, hb, c, hc, hne⟩ := HullR.not_line Hs.hull
    exact absurd (g3 a ha b hb c hc) hne
theorem hull15_short {l : List Pt} (hn : ∀ q ∈ l, near 20000 q) (h0 : l ≠ []) : 1 ≤ (lowC (sortedV l)).length ∧ 1 ≤ (lowC (sortedV l).reverse).length := by
  have hp := sorted_lin hn
  obtain ⟨h1, h2⟩ := sortedV_strict l
  have hne : sortedV l ≠ [] := fun e => by
    obtain ⟨x, r, rfl⟩ := List.exists_cons_of_ne_nil h0
    have := (h2 x).2 (List.mem_cons_self ..)
    rw [e] at this; cases this
  have hpr : (sortedV l).reverse.Pairwise (fun x y => lin (-1) (-40001) x < lin (-1) (-40001) y) := by
    rw [List.pairwise_reverse]
    refine hp.imp ?_
    intro a b hab
    rw [show (-1 : Int) = -(1 : Int) from rfl, show (-40001 : Int) = -(40001 : Int) from rfl, lin_neg, lin_neg]; omega
  constructor
  · obtain ⟨x, r, e⟩ := List.exists_cons_of_ne_nil hne
    rw [e] at hp ⊢
    have := (chain_of hp).2.2.2
    unfold lowC
    simpa using this
  · obtain ⟨x, r, e⟩ := List.exists_cons_of_ne_nil (show (sortedV l).reverse ≠ [] by simpa using hne)
    rw [e] at hpr ⊢
    have := (chain_of hpr).2.2.2
    unfold lowC
    simpa using this
/-- The ring, or the error that it has. -/
def checkedV (u : List Pt) : List Pt × Int := if u.all inV then (if 160 < u.length then ([], 9) else (u, 0)) else ([], 2)
/-- What Sum is to return. -/
def SumIs (r s : List Pt) (out : List Pt × Int) : Prop := ∃ u, HullY (sums2 r s) u ∧ out = checkedV u
theorem SumIs.unique {r s : List Pt} {a b : List Pt × Int} (h : SumIs r s a) (k : SumIs r s b) : a = b := by
  obtain ⟨u, hu, rfl⟩ := h
  obtain ⟨v, hv, rfl⟩ := k
  rw [hu.unique hv]

theorem ecmp_elt {p q : Pt} (hp : near 16000 p) (hq : near 16000 q) : ltOf ecmp p q = elt p q := by
  unfold near at hp hq
  have c : crossI p.1 p.2 q.1 q.2 = crs p q := crs_exact hp.1 hp.2 hq.1 hq.2
  rw [ltOf_ecmp]
  unfold ecmp elt halfI or2 cmpi
  rw [c]
  cases upB p <;> cases upB q <;> simp
  all_goals (split <;> (try split) <;> simp <;> omega)
theorem ord_ecmp : OrdOn Dir16 (ltOf ecmp) where
  asym x y hx hy h := by
    rw [ecmp_elt hx.1 hy.1] at h
    rw [ecmp_elt hy.1 hx.1]
    exact ord_elt.asym x y hx.dir hy.dir h
  ntrans x y z hx hy hz h1 h2 := by
    rw [ecmp_elt hy.1 hx.1] at h1
    rw [ecmp_elt hz.1 hy.1] at h2
    rw [ecmp_elt hz.1 hx.1]
    exact ord_elt.ntrans x y z hx.dir hy.dir hz.dir h1 h2
end Go.Proofs.YtpbgimdbhgahkaaGreat
/- Layer 15: Sum returns the hull of the sums, or the error that it has. -/
namespace Go.Proofs.YtpbgimdbhgahkaaGreat
open Go.RowKit Go.Sort
set_option linter.unusedVariables false
set_option linter.unusedSimpArgs false

def srtR (l T : List Pt) : Prop := T.Perm l ∧ ((∀ x ∈ l, Dir16 x) → Sd elt T 0 T.length)
theorem sortsAll : Sorts 100000 srtR := by
  refine ⟨fun l T h => h.1.length_eq, fun g off c b7 l w hL hn hD h hO hne => ?_⟩
  have := stable_any ord_ecmp b7 g off c l w hL ⟨h, hO.elim fun q => q.lt, hne⟩ hD (by omega)
  refine this.mono ?_
  rintro e w' ⟨he, T, hl, hr, hs, hg⟩
  refine ⟨he, T, hl, ⟨hr.perm, fun hD i j h1 h2 h3 => ?_⟩, hg⟩
  have hlen := hr.len
  have dT := hr.allD hD
  rw [← ecmp_elt (dT _ (at0_mem h3)).1 (dT _ (at0_mem (by omega))).1]
  exact hs i j h1 h2 (by omega)
theorem conv_begun {r : List Pt} {k : Nat} (h : Conv15 r) (hk : k < r.length) (hl : ∀ j, j < r.length → ¬ lexy (at0 r j) (at0 r k)) : Begun (rotL k r) := by
  have hlen := rotL_length (r := r) (Nat.le_of_lt hk)
  have h3 := h.1
  refine ⟨by omega, near_rotL h.2.2.1, ((h.2.2.2.self h3).rot hk).cv, fun j hj => ?_⟩
  rw [rot_at hk (by omega), rot_at hk (by omega), Nat.add_zero, Nat.mod_eq_of_lt hk]
  exact hl _ (Nat.mod_lt _ (by omega))
theorem mem_rotL {r : List Pt} {k : Nat} (q : Pt) : q ∈ rotL k r ↔ q ∈ r := by
  unfold rotL
  rw [List.mem_append, or_comm, ← List.mem_append, List.take_append_drop]
theorem mem_sums2_rot {r s : List Pt} {k m : Nat} (q : Pt) : q ∈ sums2 (rotL k r) (rotL m s) ↔ q ∈ sums2 r s := by
  rw [mem_sums2, mem_sums2]
  constructor
  · rintro ⟨a, ha, b, hb, e⟩; exact ⟨a, (mem_rotL a).1 ha, b, (mem_rotL b).1 hb, e⟩
  · rintro ⟨a, ha, b, hb, e⟩; exact ⟨a, (mem_rotL a).2 ha, b, (mem_rotL b).2 hb, e⟩
theorem wadd_near {a b : Int} {n : Nat} (hn : n ≤ 1000000) (ha : -(n * 16000 : Int) ≤ a ∧ a ≤ n * 16000) (hb : -16000 ≤ b ∧ b ≤ 16000) : wadd a b = a + b := by
  exact wadd_in (by omega)
/-- With bounded edges nothing wraps around. -/
theorem atK_pre {P : Pt} {T : List Pt} (hP : near 16000 P) (hT : ∀ x ∈ T, near 16000 x) (hl : T.length ≤ 100000) : ∀ k, k ≤ T.length → atK P T k = pre P T k ∧ near ((k + 1 : Nat) * 16000) (pre P T k)
  | 0, _ => by
    refine ⟨?_, ?_⟩
    · unfold pre sumL addP; simp [atK]
    · unfold pre sumL addP near at *; simp at *; omega
  | k + 1, h => by
    obtain ⟨i1, i2⟩ := atK_pre hP hT hl k (by omega)
    have hx := hT _ (at0_mem (c := T) (i := k) (by omega))
    have e : pre P T (k + 1) = addP (pre P T k) (at0 T k) := by
      unfold pre
      rw [List.take_succ_eq_append_getElem (by omega), sumL_app, sumL_one, at0_eq (by omega)]
      unfold addP
      exact Prod.ext (by simp only; omega) (by simp only; omega)
    rw [e]
    unfold near at i2 hx
    have i3 := i2.1
    have i4 := i2.2
    have j3 := hx.1
    have j4 := hx.2
    refine ⟨?_, ?_⟩
    · show addW (atK P T k) (at0 T k) = _
      rw [i1]
      unfold addW addP
      rw [wadd_near (n := k + 1) (by omega) (by omega) hx.1, wadd_near (n := k + 1) (by omega) (by omega) hx.2]
    · unfold addP near
      simp only
      omega
theorem newB_newE {T : List Pt} (hT : ∀ x ∈ T, near 16000 x) {k : Nat} (hk : k < T.length) : newB T k = newE T k := by
  unfold newB newE crossP
  by_cases k0 : k = 0
  · rw [k0]; rfl
  · have a := hT _ (at0_mem (c := T) (i := k - 1) (by omega))
    have b := hT _ (at0_mem (c := T) (i := k) hk)
    unfold near at a b
    rw [crs_exact a.1 a.2 b.1 b.2]
theorem outK_outV {P : Pt} {T : List Pt} (hP : near 16000 P) (hT : ∀ x ∈ T, near 16000 x) (hl : T.length ≤ 100000) : ∀ k, k ≤ T.length → outK P T k = ((List.range k).filter (newE T)).map (pre P T)
  | 0, _ => rfl
  | k + 1, h => by
    have ih := outK_outV hP hT hl k (by omega)
    have hn := newB_newE hT (k := k) (by omega)
    have ha := (atK_pre hP hT hl k (by omega)).1
    unfold outK
    rw [List.range_succ, List.filter_append, List.map_append, ih, hn, ha]
    cases q : newE T k
    · simp [q]
    · simp [q]
theorem sum_is {r s : List Pt} (hr : Conv15 r) (hs : Conv15 s) {out : List Pt × Int} (h : SumRes srtR r s out) : SumIs r s out := by
  obtain ⟨k, m, T, hk, h1, hm, h2, ⟨hp, hsd⟩, rfl⟩ := h
  have d1 := dirs_dir (n := r.length) hr hk
  have d2 := dirs_dir (n := s.length) hs hm
  have hd : ∀ x ∈ dirsK (rotL k r) r.length ++ dirsK (rotL m s) s.length, Dir16 x := fun x hx => by
    rcases List.mem_append.1 hx with q | q
    · exact d1 x q
    · exact d2 x q
  have l1 := rotL_length (r := r) (Nat.le_of_lt hk)
  have l2 := rotL_length (r := s) (Nat.le_of_lt hm)
  have M : Merged (rotL k r) (rotL m s) T := ⟨conv_begun hr hk h1, conv_begun hs hm h2, by rw [l1, l2]; exact hp, hsd hd⟩
  have H := M.hull
  have e1 : at0 (rotL k r) 0 = at0 r k := by rw [rot_at hk (by omega), Nat.add_zero, Nat.mod_eq_of_lt hk]
  have e2 : at0 (rotL m s) 0 = at0 s m := by rw [rot_at hm (by omega), Nat.add_zero, Nat.mod_eq_of_lt hm]
  rw [e1, e2] at H
  have n1 := hr.2.2.1 _ (at0_mem hk)
  have n2 := hs.2.2.1 _ (at0_mem hm)
  have eP : addW (at0 r k) (at0 s m) = addP (at0 r k) (at0 s m) := by
    unfold near at n1 n2
    unfold addW addP
    rw [wadd_near (n := 1) (by omega) (by omega) (by omega), wadd_near (n := 1) (by omega) (by omega) (by omega)]
  have hT : ∀ x ∈ T, near 16000 x := fun x hx => (hd x (hp.mem_iff.1 hx)).1
  have hl : T.length ≤ 100000 := by
    have := M.len
    have := hr.2.1
    have := hs.2.1
    omega
  have hP : near 16000 (addP (at0 r k) (at0 s m)) := by unfold near addP at *; simp only; omega
  refine ⟨_, H.more (fun q hq => (mem_sums2_rot q).2 hq) (fun v hv => (mem_sums2_rot v).1 (H.hull.sub v hv)), ?_⟩
  rw [eP]
  unfold sumOut checkedV
  rw [outK_outV hP hT hl _ (Nat.le_refl _)]
  rfl
end Go.Proofs.YtpbgimdbhgahkaaGreat
