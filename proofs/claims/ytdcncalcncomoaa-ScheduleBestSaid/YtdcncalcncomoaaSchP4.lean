/- Layer 52 (plain): all orders, one after the other; the best of them. -/
import Derived.Test.YtdcncalcncomoaaSch53
import Derived.Test.YtdcncalcncomoaaSch30
import Derived.Test.YtdcncalcncomoaaSchP2
namespace Go.Proofs.Ytdcncalcncomoaa
open Go.RowKit
set_option linter.unusedVariables false

/-- All continuations of a list by numbers below n that are not in it, f of them, in the order of the search. -/
def dfsI (n : Nat) : Nat → List Int → List (List Int)
  | 0, l => [l]
  | f + 1, l => (List.range n).flatMap fun (j : Nat) => if l.contains (j : Int) then [] else dfsI n f (l ++ [(j : Int)])
def permsI (n : Nat) : List (List Int) := dfsI n n []
def rangeI (n : Nat) : List Int := (List.range n).map fun (j : Nat) => (j : Int)
/-- Each is followed by the next, the last by none. -/
def chainB : List (List Int) → Bool
  | [] => false
  | [o] => (followV o).isNone
  | o :: p :: r => (followV o == some p) && chainB (p :: r)
theorem perms_chain : ∀ n, n ≤ 4 → chainB (permsI n) = true ∧ (permsI n).head? = some (rangeI n) := by
  intro n hn
  have : n = 0 ∨ n = 1 ∨ n = 2 ∨ n = 3 ∨ n = 4 := by omega
  rcases this with rfl | rfl | rfl | rfl | rfl <;> exact ⟨by decide +kernel, by decide +kernel⟩
theorem mem_dfs {n : Nat} : ∀ (r l : List Int), (l ++ r).Nodup → (∀ x ∈ r, 0 ≤ x ∧ x < n) → l ++ r ∈ dfsI n r.length l
  | [], l, _, _ => by simp [dfsI]
  | x :: r, l, h, hr => by
    rw [List.length_cons]
    unfold dfsI
    rw [List.mem_flatMap]
    obtain ⟨h0, h1⟩ := hr x (by simp)
    obtain ⟨j, rfl⟩ : ∃ j : Nat, x = j := ⟨x.toNat, by omega⟩
    refine ⟨j, by simp; omega, ?_⟩
    have hnot : l.contains ((j : Nat) : Int) = false := by
      rw [Bool.eq_false_iff]
      intro hc
      rw [List.contains_iff_mem] at hc
      exact (List.nodup_append.1 h).2.2 _ hc (j : Int) (by simp) rfl
    rw [if_neg (by rw [hnot]; simp)]
    have e : l ++ (j : Int) :: r = (l ++ [(j : Int)]) ++ r := by simp
    rw [e] at h ⊢
    exact mem_dfs r (l ++ [(j : Int)]) h fun y hy => hr y (by simp [hy])
theorem dfs_len {n : Nat} : ∀ (f : Nat) (l o : List Int), o ∈ dfsI n f l → o.length = l.length + f
  | 0, l, o, h => by simp [dfsI] at h; rw [h]; omega
  | f + 1, l, o, h => by
    unfold dfsI at h
    rw [List.mem_flatMap] at h
    obtain ⟨j, -, h⟩ := h
    split at h
    · cases h
    · have := dfs_len f _ o h
      rw [List.length_append, List.length_singleton] at this
      omega
theorem dfs_range {n : Nat} : ∀ (f : Nat) (l o : List Int), (∀ x ∈ l, 0 ≤ x ∧ x < n) → l.Nodup → o ∈ dfsI n f l → (∀ x ∈ o, 0 ≤ x ∧ x < n) ∧ o.Nodup
  | 0, l, o, hl, hd, h => by simp [dfsI] at h; subst h; exact ⟨hl, hd⟩
  | f + 1, l, o, hl, hd, h => by
    unfold dfsI at h
    rw [List.mem_flatMap] at h
    obtain ⟨j, hj, h⟩ := h
    split at h
    · cases h
    · rename_i hc
      have hj : j < n := by simpa using hj
      refine dfs_range f (l ++ [(j : Int)]) o (fun x hx => ?_) ?_ h
      · rcases List.mem_append.1 hx with hx | hx
        · exact hl x hx
        · rw [List.mem_singleton] at hx; subst hx; omega
      · rw [List.nodup_append]
        refine ⟨hd, by simp, fun a ha b hb => ?_⟩
        rw [List.mem_singleton] at hb
        subst hb
        intro e
        subst e
        exact hc (by rw [List.contains_iff_mem]; exact ha)

def placeV (s : ShopR) (L : List JobR) (l : List SlotR) (j : Int) : List SlotR := match dispatchV s L l j with
  | some x => l ++ [x]
  | none => l
def placeAll (s : ShopR) (L : List JobR) (l : List SlotR) (o : List Int) : List SlotR := o.foldl (placeV s L) l
def costLt (L : List JobR) (a b : List SlotR) : Bool := lessC (priceV L a).job (priceV L a).mach (priceV L a).start (priceV L a).stop (priceV L b).job (priceV L b).mach (priceV L b).start (priceV L b).stop
abbrev BestR : Type := Option (List Int × List SlotR)
def bestStep (L : List JobR) (best : BestR) (p : List Int × List SlotR) : BestR := match best with
  | none => some p
  | some b => if costLt L p.2 b.2 = true then some p else some b
def bestOver (s : ShopR) (L : List JobR) (best : BestR) (os : List (List Int)) : BestR := os.foldl (fun b o => bestStep L b (o, placeAll s L [] o)) best
/-- What Best returns: an order, its schedule, an error. -/
def bestV (s : ShopR) (L : List JobR) : List Int × List SlotR × Int :=
  if checkS s L = true then (if 6 < L.length then ([], [], 9) else (((bestOver s L none (permsI L.length)).getD ([], [])).1, ((bestOver s L none (permsI L.length)).getD ([], [])).2, 0)) else ([], [], 1)
end Go.Proofs.Ytdcncalcncomoaa
/- Layer 52 (plain): the best order is no worse than any list of jobs. -/
namespace Go.Proofs.Ytdcncalcncomoaa
open Go.RowKit
set_option linter.unusedVariables false

theorem costLt_trans {L : List JobR} {a b c : List SlotR} (h : costLt L a b = true) (k : costLt L b c = true) : costLt L a c = true := by
  unfold costLt at *
  generalize priceV L a = x at *
  generalize priceV L b = y at *
  generalize priceV L c = z at *
  obtain ⟨x0, x1, x2, x3⟩ := x
  obtain ⟨y0, y1, y2, y3⟩ := y
  obtain ⟨z0, z1, z2, z3⟩ := z
  simp only at *
  rcases lessC_cases x0 x1 x2 x3 y0 y1 y2 y3 with ⟨h0, e⟩ | ⟨h0, h1, e⟩ | ⟨h0, h1, h2, e⟩ | ⟨h0, h1, h2, e⟩ <;> rw [e] at h <;>
  rcases lessC_cases y0 y1 y2 y3 z0 z1 z2 z3 with ⟨g0, f⟩ | ⟨g0, g1, f⟩ | ⟨g0, g1, g2, f⟩ | ⟨g0, g1, g2, f⟩ <;> rw [f] at k <;>
  rcases lessC_cases x0 x1 x2 x3 z0 z1 z2 z3 with ⟨k0, j⟩ | ⟨k0, k1, j⟩ | ⟨k0, k1, k2, j⟩ | ⟨k0, k1, k2, j⟩ <;> rw [j] <;> simp only [decide_eq_true_eq] at * <;> omega
theorem costLt_miss {L : List JobR} {a b : List SlotR} (h : missN L.length a < missN L.length b) : costLt L a b = true := by
  unfold costLt
  rcases lessC_cases (priceV L a).job (priceV L a).mach (priceV L a).start (priceV L a).stop (priceV L b).job (priceV L b).mach (priceV L b).start (priceV L b).stop with ⟨h0, e⟩ | ⟨h0, h1, e⟩ | ⟨h0, h1, h2, e⟩ | ⟨h0, h1, h2, e⟩
  · rw [e, decide_eq_true_eq]; exact h
  all_goals (exfalso; have h9 : missN L.length a = missN L.length b := h0; omega)
theorem costLt_irrefl (L : List JobR) (a : List SlotR) : costLt L a a = false := by
  unfold costLt
  rcases lessC_cases (priceV L a).job (priceV L a).mach (priceV L a).start (priceV L a).stop (priceV L a).job (priceV L a).mach (priceV L a).start (priceV L a).stop with ⟨h0, e⟩ | ⟨h0, h1, e⟩ | ⟨h0, h1, h2, e⟩ | ⟨h0, h1, h2, e⟩
  · exact absurd rfl h0
  · exact absurd rfl h1
  · exact absurd rfl h2
  · rw [e]; simp
/-- The best so far is what an order of the list gives, and no order of the list gives less. -/
theorem best_min {s : ShopR} {L : List JobR} : ∀ (os done : List (List Int)) (best : BestR), (∀ b, best = some b → b.1 ∈ done ∧ b.2 = placeAll s L [] b.1) → (best = none → done = []) → (∀ b o, best = some b → o ∈ done → costLt L (placeAll s L [] o) b.2 = false) →
    (∀ b, bestOver s L best os = some b → (b.1 ∈ done ++ os ∧ b.2 = placeAll s L [] b.1) ∧ ∀ o ∈ done ++ os, costLt L (placeAll s L [] o) b.2 = false) ∧ (bestOver s L best os = none → done ++ os = [])
  | [], done, best, h1, h0, h2 => by
    simp only [List.append_nil]
    exact ⟨fun b hb => ⟨h1 b hb, fun o ho => h2 b o hb ho⟩, h0⟩
  | o :: os, done, best, h1, h0, h2 => by
    have e : bestOver s L best (o :: os) = bestOver s L (bestStep L best (o, placeAll s L [] o)) os := rfl
    have e2 : done ++ o :: os = (done ++ [o]) ++ os := by simp
    rw [e, e2]
    refine best_min os (done ++ [o]) _ (fun b hb => ?_) (fun hb => ?_) (fun b p hb hp => ?_)
    · unfold bestStep at hb
      cases best with
      | none => simp only [Option.some.injEq] at hb; subst hb; exact ⟨by simp, rfl⟩
      | some q =>
        simp only at hb
        split at hb
        · simp only [Option.some.injEq] at hb; subst hb; exact ⟨by simp, rfl⟩
        · simp only [Option.some.injEq] at hb; subst hb
          obtain ⟨a, c⟩ := h1 q rfl
          exact ⟨by simp [a], c⟩
    · unfold bestStep at hb
      cases best with
      | none => cases hb
      | some q => simp only at hb; split at hb <;> cases hb
    · unfold bestStep at hb
      rw [List.mem_append, List.mem_singleton] at hp
      cases best with
      | none =>
        simp only [Option.some.injEq] at hb
        subst hb
        have := h0 rfl
        subst this
        rcases hp with hp | rfl
        · cases hp
        · exact costLt_irrefl L _
      | some q =>
        simp only at hb
        split at hb
        · rename_i hlt
          simp only [Option.some.injEq] at hb
          subst hb
          rcases hp with hp | rfl
          · cases hc : costLt L (placeAll s L [] p) (placeAll s L [] o)
            · rfl
            · have := costLt_trans hc hlt
              rw [h2 q p rfl hp] at this
              cases this
          · exact costLt_irrefl L _
        · rename_i hlt
          simp only [Option.some.injEq] at hb
          subst hb
          rcases hp with hp | rfl
          · exact h2 q p rfl hp
          · simpa using hlt
theorem list_place {s : ShopR} {L : List JobR} : ∀ (o : List Int) (l : List SlotR) (left : List Int), (listGo s L l left o).1 = 0 → (listGo s L l left o).2.1 = placeAll s L l o
  | [], l, left, h => rfl
  | j :: o, l, left, h => by
    unfold listGo at h ⊢
    by_cases ha : askedE L l j = 0
    · rw [if_pos ha] at h ⊢
      unfold placeAll
      rw [List.foldl_cons]
      unfold placeV
      cases hd : dispatchV s L l j with
      | none => rw [hd] at h; exact list_place o l _ h
      | some x => rw [hd] at h; exact list_place o (l ++ [x]) _ h
    · rw [if_neg ha] at h
      exact absurd h ha
def jobsOf (l : List SlotR) : List Int := l.map (·.job)
theorem asked_ok {L : List JobR} {l : List SlotR} {j : Int} (h0 : 0 ≤ j) (h1 : j < L.length) (hn : j ∉ jobsOf l) : askedE L l j = 0 := by
  unfold askedE
  rw [if_neg (by unfold jobIn; simp; omega), if_neg]
  rw [List.any_eq_true]
  rintro ⟨y, hy, e⟩
  exact hn (by unfold jobsOf; rw [List.mem_map]; exact ⟨y, hy, by simpa using e⟩)
theorem asked_not {L : List JobR} {l : List SlotR} {j : Int} (h : askedE L l j = 0) : j ∉ jobsOf l := by
  intro hm
  unfold jobsOf at hm
  rw [List.mem_map] at hm
  obtain ⟨y, hy, e⟩ := hm
  unfold askedE at h
  split at h
  · cases h
  · rw [if_pos (by rw [List.any_eq_true]; exact ⟨y, hy, by simpa using e⟩)] at h
    cases h
/-- An order without doubles is listed without an error. -/
theorem list_ok {s : ShopR} {L : List JobR} : ∀ (o : List Int) (l : List SlotR) (left : List Int), o.Nodup → (∀ x ∈ o, 0 ≤ x ∧ x < L.length) → (∀ x ∈ o, x ∉ jobsOf l) → (listGo s L l left o).1 = 0
  | [], l, left, _, _, _ => rfl
  | j :: o, l, left, hd, hr, hn => by
    obtain ⟨hj, hd⟩ := List.nodup_cons.1 hd
    obtain ⟨h0, h1⟩ := hr j (by simp)
    unfold listGo
    rw [if_pos (asked_ok h0 h1 (hn j (by simp)))]
    cases hx : dispatchV s L l j with
    | none => exact list_ok o l _ hd (fun x hx => hr x (by simp [hx])) fun x hx => hn x (by simp [hx])
    | some x =>
      refine list_ok o (l ++ [x]) _ hd (fun x hx => hr x (by simp [hx])) fun y hy => ?_
      obtain ⟨q, rfl⟩ : ∃ q : Nat, j = q := ⟨j.toNat, by omega⟩
      have e := (dispatch_named hx).1
      unfold jobsOf
      rw [List.map_append, List.mem_append]
      rintro (h | h)
      · exact hn y (by simp [hy]) h
      · simp only [List.map_cons, List.map_nil, List.mem_singleton] at h
        rw [h, e] at hy
        exact hj hy
/-- The jobs of an order that get a slot. -/
def succL (s : ShopR) (L : List JobR) : List SlotR → List Int → List Int
  | _, [] => []
  | l, j :: o => match dispatchV s L l j with
    | some x => j :: succL s L (l ++ [x]) o
    | none => succL s L l o
theorem place_cons (s : ShopR) (L : List JobR) (l : List SlotR) (j : Int) (o : List Int) : placeAll s L l (j :: o) = placeAll s L (placeV s L l j) o := rfl
theorem succ_spec {s : ShopR} {L : List JobR} : ∀ (o : List Int) (l : List SlotR) (left : List Int), (listGo s L l left o).1 = 0 → (jobsOf l).Nodup → placeAll s L l (succL s L l o) = placeAll s L l o ∧ (jobsOf l ++ succL s L l o).Nodup ∧ (∀ x ∈ succL s L l o, 0 ≤ x ∧ x < L.length) ∧ jobsOf (placeAll s L l o) = jobsOf l ++ succL s L l o
  | [], l, left, h, hd => by simp [succL, placeAll, hd]
  | j :: o, l, left, h, hd => by
    unfold listGo at h
    by_cases ha : askedE L l j = 0
    · rw [if_pos ha] at h
      obtain ⟨h0, h1⟩ := asked_in ha
      have hnot := asked_not ha
      have hpv : placeV s L l j = match dispatchV s L l j with | some x => l ++ [x] | none => l := rfl
      have hsl : succL s L l (j :: o) = match dispatchV s L l j with | some x => j :: succL s L (l ++ [x]) o | none => succL s L l o := rfl
      rw [place_cons, hsl]
      cases hx : dispatchV s L l j with
      | none =>
        rw [hx] at h hpv
        simp only at hpv h ⊢
        rw [hpv]
        exact succ_spec o l _ h hd
      | some x =>
        rw [hx] at h hpv
        simp only at hpv h ⊢
        rw [hpv]
        have e := (dispatch_named hx).1
        have ej : jobsOf (l ++ [x]) = jobsOf l ++ [j] := by unfold jobsOf; rw [List.map_append]; simp [e]
        obtain ⟨a, b, c, d⟩ := succ_spec o (l ++ [x]) _ h (by rw [ej, List.nodup_append]; exact ⟨hd, by simp, fun a ham b hb => by rw [List.mem_singleton] at hb; subst hb; intro e2; subst e2; exact hnot ham⟩)
        rw [ej] at b d
        refine ⟨by rw [place_cons, hpv]; exact a, by simpa using b, fun y hy => ?_, by rw [d]; simp⟩
        rcases List.mem_cons.1 hy with rfl | hy
        · exact ⟨h0, h1⟩
        · exact c y hy
    · rw [if_neg ha] at h
      exact absurd h ha
theorem place_miss {s : ShopR} {L : List JobR} : ∀ (r : List Int) (l : List SlotR), (∀ x ∈ r, x ∉ jobsOf l) → r.Nodup → (∀ x ∈ r, 0 ≤ x ∧ x < L.length) → placeAll s L l r = l ∨ missN L.length (placeAll s L l r) < missN L.length l
  | [], l, _, _, _ => .inl rfl
  | j :: r, l, hn, hd, hr => by
    obtain ⟨hj, hd2⟩ := List.nodup_cons.1 hd
    obtain ⟨h0, h1⟩ := hr j (by simp)
    obtain ⟨q, rfl⟩ : ∃ q : Nat, j = q := ⟨j.toNat, by omega⟩
    rw [place_cons]
    have hpv : placeV s L l q = match dispatchV s L l q with | some x => l ++ [x] | none => l := rfl
    rw [hpv]
    cases hx : dispatchV s L l q with
    | none => exact place_miss r l (fun x hx => hn x (by simp [hx])) hd2 fun x hx => hr x (by simp [hx])
    | some x =>
      simp only
      have e := (dispatch_named hx).1
      have hb : hasB l q = false := by
        rw [Bool.eq_false_iff]
        intro hc
        unfold hasB at hc
        rw [List.any_eq_true] at hc
        obtain ⟨y, hy, e2⟩ := hc
        exact hn q (by simp) (by unfold jobsOf; rw [List.mem_map]; exact ⟨y, hy, by simpa using e2⟩)
      have hm := missN_snoc L.length l q x e (by omega)
      rw [hb, if_neg (by simp)] at hm
      right
      have hside : ∀ y ∈ r, y ∉ jobsOf (l ++ [x]) := by
        intro y hy
        unfold jobsOf
        rw [List.map_append, List.mem_append]
        rintro (h | h)
        · exact hn y (by simp [hy]) h
        · simp only [List.map_cons, List.map_nil, List.mem_singleton] at h
          rw [h, e] at hy
          exact hj hy
      rcases place_miss r (l ++ [x]) hside hd2 (fun x hx => hr x (by simp [hx])) with h | h
      · rw [h]; omega
      · omega
theorem count_in {n : Nat} : ∀ (S : List Int), S.Nodup → (∀ x ∈ S, 0 ≤ x ∧ x < n) → (List.range n).countP (fun j => S.contains ((j : Nat) : Int)) = S.length
  | [], _, _ => by simp
  | x :: S, hd, hr => by
    obtain ⟨hx, hd2⟩ := List.nodup_cons.1 hd
    obtain ⟨h0, h1⟩ := hr x (by simp)
    obtain ⟨q, rfl⟩ : ∃ q : Nat, x = q := ⟨x.toNat, by omega⟩
    have e : (fun j : Nat => ((q : Int) :: S).contains ((j : Nat) : Int)) = fun j : Nat => (S.contains ((j : Nat) : Int) || ((q : Int) == (j : Int))) := funext fun j => by
      rw [List.contains_cons, Bool.or_comm, Bool.beq_comm]
    rw [e, cnt_set (fun j : Nat => S.contains ((j : Nat) : Int)) q n, count_in S hd2 fun y hy => hr y (by simp [hy]), if_pos ⟨by omega, by rw [Bool.eq_false_iff]; intro hc; exact hx (by rw [List.contains_iff_mem] at hc; exact hc)⟩, List.length_cons]
/-- No order of a list of jobs gives a lesser cost than the best order. -/
theorem best_law {s : ShopR} {L : List JobR} {order : List Int} (h : (listGo s L [] [] order).1 = 0) {b : List Int × List SlotR} (hb : bestOver s L none (permsI L.length) = some b) : costLt L (placeAll s L [] order) b.2 = false := by
  obtain ⟨a1, a2, a3, a4⟩ := succ_spec order [] [] h (by simp [jobsOf])
  rw [show jobsOf [] = [] from rfl, List.nil_append] at a2 a4
  generalize succL s L [] order = S at *
  have hmin := ((best_min (s := s) (L := L) (permsI L.length) [] none (fun b hb => by cases hb) (fun _ => rfl) (fun b o hb => by cases hb)).1 b hb).2
  have hrm : ∀ x ∈ (rangeI L.length).filter (fun x => !S.contains x), (0 ≤ x ∧ x < L.length) ∧ x ∉ S := by
    intro x hx
    obtain ⟨h1, h2⟩ := List.mem_filter.1 hx
    unfold rangeI at h1
    rw [List.mem_map] at h1
    obtain ⟨j, hj, rfl⟩ := h1
    have hj : j < L.length := by simpa using hj
    refine ⟨by omega, fun hc => ?_⟩
    rw [Bool.not_eq_true', Bool.eq_false_iff] at h2
    exact h2 (by rw [List.contains_iff_mem]; exact hc)
  have hrd : ((rangeI L.length).filter (fun x => !S.contains x)).Nodup := by
    refine List.Nodup.sublist List.filter_sublist ?_
    unfold rangeI List.Nodup
    rw [List.pairwise_map]
    exact List.nodup_range.imp fun h e => h (by omega)
  have hlen : (S ++ (rangeI L.length).filter (fun x => !S.contains x)).length = L.length := by
    rw [List.length_append, ← List.countP_eq_length_filter]
    have h1 := count_in S a2 a3
    have h2 := List.length_eq_countP_add_countP (p := fun j : Nat => S.contains ((j : Nat) : Int)) (l := List.range L.length)
    rw [List.length_range] at h2
    have h3 : (rangeI L.length).countP (fun x => !S.contains x) = (List.range L.length).countP (fun j : Nat => decide ¬ (S.contains ((j : Nat) : Int) = true)) := by
      unfold rangeI
      rw [List.countP_map]
      refine List.countP_congr fun j _ => ?_
      simp
    omega
  have hP : S ++ (rangeI L.length).filter (fun x => !S.contains x) ∈ permsI L.length := by
    have := mem_dfs (n := L.length) (S ++ (rangeI L.length).filter (fun x => !S.contains x)) [] (by
      rw [List.nil_append, List.nodup_append]
      exact ⟨a2, hrd, fun x hx y hy e => by subst e; exact (hrm x hy).2 hx⟩) (fun x hx => by
      rcases List.mem_append.1 hx with hx | hx
      · exact a3 x hx
      · exact (hrm x hx).1)
    rw [hlen, List.nil_append] at this
    exact this
  have hm := hmin _ (by rw [List.nil_append]; exact hP)
  have hpl : placeAll s L [] (S ++ (rangeI L.length).filter (fun x => !S.contains x)) = placeAll s L (placeAll s L [] order) ((rangeI L.length).filter (fun x => !S.contains x)) := by
    rw [← a1]
    unfold placeAll
    rw [List.foldl_append]
  rw [hpl] at hm
  rcases place_miss ((rangeI L.length).filter (fun x => !S.contains x)) (placeAll s L [] order) (fun x hx => by rw [a4]; exact (hrm x hx).2) hrd (fun x hx => (hrm x hx).1) with h9 | h9
  · rw [h9] at hm; exact hm
  · cases hc : costLt L (placeAll s L [] order) b.2
    · rfl
    · have := costLt_trans (costLt_miss h9) hc
      rw [hm] at this
      cases this
end Go.Proofs.Ytdcncalcncomoaa
