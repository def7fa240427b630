/- Layer 16: Row of the reference. -/
import Derived.Test.YtpbgimdbhgahkaaGreatNof3
namespace Go.Proofs.YtpbgimdbhgahkaaGreat
open Go.RowKit Go.Sort
set_option linter.unusedVariables false
set_option linter.unusedSimpArgs false
attribute [local go_sem ↓] Go.wp_at_zero Go.wp_at_succ

/-- 's[i][1] = y' in a row of the call's own. -/
theorem Owns.set1 {base : Nat} {e : TypeId} {w : World} {c g : Nat} {l : List (Int × Int)} (h : Owns encV 2 base e w (some ⟨g, 0, none⟩) c l) (i : Nat) (hi : i < l.length) (y : Int) :
    Owns encV 2 base e (w.setCell ⟨g, i * 2 + 1, none⟩ (.int .i64 y)) (some ⟨g, 0, none⟩) c (l.set i (l[i].1, y)) ∧ w.grownBy (w.setCell ⟨g, i * 2 + 1, none⟩ (.int .i64 y)) (some g) := by
  obtain ⟨h1, h2⟩ := World.ownsRow.stored h (i * 2 + 1) (.int .i64 y)
  refine ⟨?_, h2⟩
  unfold Owns
  rw [List.length_set]
  have e1 : (l.flatMap encV).set (i * 2 + 1) (.int .i64 y) = (l.set i (l[i].1, y)).flatMap encV := by
    apply List.ext_getElem?
    intro j
    by_cases hj : j < l.length * 2
    · have hj2 : j / 2 < l.length := by omega
      have hm : j % 2 < 2 := Nat.mod_lt _ (by omega)
      have hb := flat_get encV_len (l.set i (l[i].1, y)) (j / 2) (by rw [List.length_set]; exact hj2) (j % 2) hm
      have ha := flat_get encV_len l (j / 2) hj2 (j % 2) hm
      rw [show j / 2 * 2 + j % 2 = j from by omega] at ha hb
      rw [hb, List.getElem?_set]
      by_cases e : i * 2 + 1 = j
      · subst e
        rw [if_pos rfl, if_pos (by rw [flat_length encV_len]; omega)]
        have e2 : (i * 2 + 1) / 2 = i := by omega
        have e3 : (i * 2 + 1) % 2 = 1 := by omega
        simp [e2, e3, encV]
      · rw [if_neg e, ha]
        by_cases e4 : j / 2 = i
        · have e5 : j % 2 = 0 := by omega
          simp [e4, e5, encV]
        · rw [List.getElem_set_ne (by omega)]
    · rw [List.getElem?_eq_none (by rw [List.length_set, flat_length encV_len]; omega), List.getElem?_eq_none (by rw [flat_length encV_len, List.length_set]; omega)]
  rw [← e1]; exact h1
theorem Owns.at0 {α : Type} {enc : α → List Value} {k base : Nat} {e : TypeId} {w : World} {A : Option Addr} {c : Nat} {l : List α} (h : Owns enc k base e w A c l) (hn : 0 < l.length) : ∃ g, A = some ⟨g, 0, none⟩ ∧ base ≤ g ∧ g < w.heap.size := by
  obtain ⟨g, cap, hv, hb, hlt⟩ := World.ownsRow.form h hn
  simp only [Value.slice.injEq, true_and] at hv
  exact ⟨g, hv.1, hb, hlt⟩


/-- Intervals made up to x; b: the last one ends just ahead of x. -/
structure Runs (P : Int → Bool) (L : Int) (O : List (Int × Int)) (b : Bool) (x : Int) : Prop where
  canon : CanonI O
  ends : ∀ f ∈ O, f.2 < x
  gap : b = false → ∀ f ∈ O, f.2 + 1 < x
  last : b = true → ∃ O' a, O = O' ++ [(a, x - 1)]
  mem : ∀ t, MemI t O ↔ (L ≤ t ∧ t < x ∧ P t = false)
theorem memI_app {x : Int} {l m : List (Int × Int)} : MemI x (l ++ m) ↔ MemI x l ∨ MemI x m := by
  unfold MemI
  constructor
  · rintro ⟨f, hf, h⟩
    rcases List.mem_append.1 hf with q | q
    · exact .inl ⟨f, q, h⟩
    · exact .inr ⟨f, q, h⟩
  · rintro (⟨f, hf, h⟩ | ⟨f, hf, h⟩)
    · exact ⟨f, List.mem_append.2 (.inl hf), h⟩
    · exact ⟨f, List.mem_append.2 (.inr hf), h⟩
theorem canonI_app : ∀ {l : List (Int × Int)} {a b : Int}, CanonI (l ++ [(a, b)]) ↔ (CanonI l ∧ (∀ f ∈ l, f.2 + 1 < a) ∧ a ≤ b)
  | [], a, b => by simp [CanonI]
  | f :: r, a, b => by
    have ih := canonI_app (l := r) (a := a) (b := b)
    show (f.1 ≤ f.2 ∧ (∀ g ∈ r ++ [(a, b)], f.2 + 1 < g.1) ∧ CanonI (r ++ [(a, b)])) ↔ ((f.1 ≤ f.2 ∧ (∀ g ∈ r, f.2 + 1 < g.1) ∧ CanonI r) ∧ (∀ g ∈ f :: r, g.2 + 1 < a) ∧ a ≤ b)
    rw [ih]
    constructor
    · rintro ⟨h1, h2, h3, h4, h5⟩
      refine ⟨⟨h1, fun g hg => h2 g (List.mem_append.2 (.inl hg)), h3⟩, fun g hg => ?_, h5⟩
      rcases List.mem_cons.1 hg with rfl | hg
      · exact h2 (a, b) (List.mem_append.2 (.inr (List.mem_singleton.2 rfl)))
      · exact h4 g hg
    · rintro ⟨⟨h1, h2, h3⟩, h4, h5⟩
      refine ⟨h1, fun g hg => ?_, h3, fun g hg => h4 g (List.mem_cons_of_mem _ hg), h5⟩
      rcases List.mem_append.1 hg with hg | hg
      · exact h2 g hg
      · rw [List.mem_singleton] at hg
        rw [hg]
        exact h4 f (List.mem_cons_self ..)
theorem Runs.start (P : Int → Bool) (L : Int) : Runs P L [] false L := ⟨trivial, (fun f hf => by cases hf), (fun _ f hf => by cases hf), (fun h => by cases h), fun t => ⟨fun q => absurd q memI_nil, fun q => by omega⟩⟩
theorem Runs.skip {P : Int → Bool} {L x : Int} {O : List (Int × Int)} {b : Bool} (h : Runs P L O b x) (hx : P x = true) : Runs P L O false (x + 1) := by
  refine ⟨h.canon, fun f hf => by have := h.ends f hf; omega, fun _ f hf => by have := h.ends f hf; omega, (fun q => by cases q), fun t => (h.mem t).trans ⟨fun ⟨q1, q2, q3⟩ => ⟨q1, by omega, q3⟩, fun ⟨q1, q2, q3⟩ => ⟨q1, ?_, q3⟩⟩⟩
  rcases Int.lt_or_eq_of_le (show t ≤ x by omega) with c | c
  · exact c
  · rw [c, hx] at q3; cases q3
theorem Runs.begin {P : Int → Bool} {L x : Int} {O : List (Int × Int)} (h : Runs P L O false x) (hL : L ≤ x) (hx : P x = false) : Runs P L (O ++ [(x, x)]) true (x + 1) := by
  refine ⟨canonI_app.2 ⟨h.canon, h.gap rfl, Int.le_refl _⟩, fun f hf => ?_, (fun q => by cases q), fun _ => ⟨O, x, by rw [Int.add_sub_cancel]⟩, fun t => ?_⟩
  · rcases List.mem_append.1 hf with q | q
    · have := h.ends f q; omega
    · rw [List.mem_singleton] at q; rw [q]; show x < x + 1; omega
  · rw [memI_app, h.mem t]
    have e : MemI t [(x, x)] ↔ t = x := by unfold MemI; simp; omega
    rw [e]
    constructor
    · rintro (⟨q1, q2, q3⟩ | rfl)
      · exact ⟨q1, by omega, q3⟩
      · exact ⟨hL, by omega, hx⟩
    · rintro ⟨q1, q2, q3⟩
      by_cases c : t = x
      · exact .inr c
      · exact .inl ⟨q1, by omega, q3⟩
theorem Runs.more {P : Int → Bool} {L x : Int} {O' : List (Int × Int)} {a : Int} (h : Runs P L (O' ++ [(a, x - 1)]) true x) (hL : L ≤ x) (hx : P x = false) : Runs P L (O' ++ [(a, x)]) true (x + 1) := by
  obtain ⟨c1, c2, c3⟩ := canonI_app.1 h.canon
  refine ⟨canonI_app.2 ⟨c1, c2, by omega⟩, fun f hf => ?_, (fun q => by cases q), fun _ => ⟨O', a, by rw [Int.add_sub_cancel]⟩, fun t => ?_⟩
  · rcases List.mem_append.1 hf with q | q
    · have := h.ends f (List.mem_append.2 (.inl q)); omega
    · rw [List.mem_singleton] at q; rw [q]; show x < x + 1; omega
  · have hm := h.mem t
    rw [memI_app] at hm ⊢
    have e1 : MemI t [(a, x - 1)] ↔ (a ≤ t ∧ t ≤ x - 1) := by unfold MemI; simp
    have e2 : MemI t [(a, x)] ↔ (a ≤ t ∧ t ≤ x) := by unfold MemI; simp
    rw [e1] at hm
    rw [e2]
    by_cases c : t = x
    · subst c
      exact ⟨fun _ => ⟨hL, by omega, hx⟩, fun _ => .inr ⟨by omega, Int.le_refl _⟩⟩
    · constructor
      · rintro (q | q)
        · have := hm.1 (.inl q); exact ⟨this.1, by omega, this.2.2⟩
        · have := hm.1 (.inr ⟨q.1, by omega⟩); exact ⟨this.1, by omega, this.2.2⟩
      · rintro ⟨q1, q2, q3⟩
        rcases hm.2 ⟨q1, by omega, q3⟩ with q | q
        · exact .inl q
        · exact .inr ⟨q.1, by omega⟩
theorem Runs.fin {S : List (List Pt)} {y lo hi x : Int} {O : List (Int × Int)} {b : Bool} (h1 : -8000 ≤ y) (h2 : y ≤ 8000) (h : Runs (fun x => forbB S (x, y)) (max lo (-8000)) O b x) (hx : min hi 8000 < x) (hx2 : x ≤ max (max lo (-8000)) (min hi 8000 + 1)) : RowV S y lo hi O := by
  refine ⟨h.canon, fun t => (h.mem t).trans ?_⟩
  constructor
  · rintro ⟨q1, q2, q3⟩; exact ⟨h1, h2, q1, by omega, q3⟩
  · rintro ⟨_, _, q1, q2, q3⟩; exact ⟨q1, by omega, q3⟩
end Go.Proofs.YtpbgimdbhgahkaaGreat
/- Layer 16: Of of the program. -/
namespace Go.Proofs.YtpbgimdbhgahkaaGreat
open Go.RowKit Go.Sort
set_option linter.unusedVariables false
set_option linter.unusedSimpArgs false
attribute [local go_sem ↓] Go.wp_at_zero Go.wp_at_succ

/-- What is left to negate, behind what is made. -/
def NegP : List (List Pt) → List (List Pt) → List (List Pt) × Int → Prop
  | [], acc, out => out = (acc, 0)
  | x :: xs, acc, out => ∃ o, NegV x o ∧ if o.2 = 0 then NegP xs (acc ++ [o.1]) out else out = ([], o.2)
theorem NegP.unique : ∀ {xs acc : List (List Pt)} {a b : List (List Pt) × Int}, NegP xs acc a → NegP xs acc b → a = b
  | [], _, _, _, h, k => h.trans k.symm
  | x :: xs, acc, a, b, ⟨o, h1, h2⟩, ⟨o', k1, k2⟩ => by
    obtain rfl := h1.unique k1
    split at h2
    · rw [if_pos (by assumption)] at k2; exact NegP.unique h2 k2
    · rw [if_neg (by assumption)] at k2; exact h2.trans k2.symm
def OfV (fs ms : List (List Pt)) (out : List (List Pt) × Int) : Prop :=
  if 10000 < fs.length * ms.length then out = ([], 9) else ∃ n, NegP ms [] n ∧ if n.2 = 0 then AllP (pairsOf fs n.1) [] out else out = ([], n.2)
theorem OfV.unique {fs ms : List (List Pt)} {a b : List (List Pt) × Int} (h : OfV fs ms a) (k : OfV fs ms b) : a = b := by
  unfold OfV at h k
  split at h
  · rw [if_pos (by assumption)] at k; rw [h, k]
  · rw [if_neg (by assumption)] at k
    obtain ⟨n, h1, h2⟩ := h
    obtain ⟨n', k1, k2⟩ := k
    obtain rfl := h1.unique k1
    split at h2
    · rw [if_pos (by assumption)] at k2; exact h2.unique k2
    · rw [if_neg (by assumption)] at k2; exact h2.trans k2.symm
theorem NegV.canon {r : List Pt} {o : List Pt × Int} (h : NegV r o) (h0 : o.2 = 0) : CanonR o.1 := by
  unfold NegV at h
  split at h
  · rename_i hv
    have hC := validB_iff.1 hv
    exact hullY_canon h.1 (List.all_eq_true.2 fun p hp => by
      obtain ⟨q, hq, rfl⟩ := List.mem_map.1 (h.1.hull.sub p hp)
      exact inV_near.2 (near_neg (hC.2.2.1 q hq))) (by rw [h.2.1]; exact hC.2.1)
  · rw [h] at h0; cases h0
def ListRes (w w' : World) (B : Option Addr) (d : Nat) (Z : List RgR) : Prop := IsRings w' B d Z ∧ (∀ z ∈ Z, ∀ b, blockOf z.A = some b → w.heap.size ≤ b) ∧ (∀ b, blockOf B = some b → w.heap.size ≤ b) ∧ Z.length ≤ d ∧ SinceOf w w'
set_option maxRecDepth 100000 in
set_option maxHeartbeats 16000000 in
theorem of_any (A B : Option Addr) (c d : Nat) (X Y : List RgR) (w : World) (h : IsRings w A c X) (h2 : IsRings w B d Y) (hX : X.length ≤ 1000) (hY : Y.length ≤ 1000) :
    Calls Tryz.prog 6 #[.slice A X.length c, .slice B Y.length d] w fun e w' => ∃ B' d' Z err, e = .returned (.tuple #[.slice B' Z.length d', .int .i64 err]) ∧ OfV (vxs X) (vxs Y) (vxs Z, err) ∧ ListRes w w' B' d' Z := by
  have H := Lib.hid (And.intro h h2)
  clear h h2
  obtain ⟨i0, hi, hz0, hz1, hz2⟩ := info_parts infoRing
  have HI := Lib.hid (And.intro hi (And.intro hz0 (And.intro hz1 hz2)))
  clear hi hz0 hz1 hz2
  unfold ListRes
  have hprod : X.length * Y.length ≤ 1000 * 1000 := Nat.mul_le_mul hX hY
  obtain ⟨pr, hpr⟩ : ∃ pr, pr = X.length * Y.length := ⟨_, rfl⟩
  have epr : (X.length : Int) * (Y.length : Int) = (pr : Int) := by rw [hpr]; exact (Int.natCast_mul _ _).symm
  have wpr : IntKind.i64.wrap (pr : Int) = (pr : Int) := IntWalk.i64_in _ (by omega)
  have HPR := Lib.hid (show pr = (vxs X).length * (vxs Y).length by rw [vxs_len, vxs_len]; exact hpr)
  have hprb : pr ≤ 1000000 := by omega
  clear hpr hprod
  by_cases h1 : 10000 < pr
  · have g1 : decide ((10000 : Int) < (pr : Int)) = true := decide_eq_true (by omega)
    have HV := Lib.hid (show OfV (vxs X) (vxs Y) ([], 9) by unfold OfV; rw [if_pos (by rw [← HPR.out]; exact h1)])
    clear h1
    go_enter Tryz.func6, Tryz.ntmps6
    go_wp2_with fail
    go_returns
    exact ⟨none, 0, [], 9, rfl, HV.out, IsRings.nil _, (fun z hz => by cases hz), (fun b hb => by cases hb), Nat.le_refl _, by (repeat (first | (with_reducible exact SinceOf.refl _) | (with_reducible assumption) | (with_reducible refine SinceOf.alloc ?_ _) | (with_reducible refine SinceOf.drew ?_) | (with_reducible refine SinceOf.drewN ?_ _) | (with_reducible refine SinceOf.later ?_ _) | (with_reducible refine SinceOf.further ?_ _) | (with_reducible refine SinceOf.setCell ?_ (by first | exact Nat.le_refl _ | (simp; done) | omega | (simp; omega)) _)))⟩
  have g1 : decide ((10000 : Int) < (pr : Int)) = false := decide_eq_false (by omega)
  have HN := Lib.hid (show ∀ out n, NegP (vxs Y) [] n → (if n.2 = 0 then AllP (pairsOf (vxs X) n.1) [] out else out = ([], n.2)) → OfV (vxs X) (vxs Y) out from fun out n hn ho => by unfold OfV; rw [if_neg (by rw [← HPR.out]; exact h1)]; exact ⟨n, hn, ho⟩)
  clear h1
  go_enter Tryz.func6, Tryz.ntmps6
  go_wp2_with fail
  clear g1 epr wpr
  go_loopg [6, 21] Y.length (fun gas s6 s21 wr => ∃ (k : Nat) (A3 : Option Addr) (c3 n3 : Nat) (Z3 : List RgR), k ≤ Y.length ∧ Y.length - k ≤ gas ∧ n3 = Z3.length ∧ n3 = k ∧ s6 = .slice A3 n3 c3 ∧ s21 = .int .i64 k ∧ OwnRings w.heap.size wr A3 c3 Z3 ∧ (∀ z ∈ Z3, ∀ b, blockOf z.A = some b → w.heap.size ≤ b) ∧ (∀ out, NegP ((vxs Y).drop k) (vxs Z3) out → NegP (vxs Y) [] out) ∧ SinceOf w wr)
  case atStart => exact ⟨0, none, 0, 0, [], by omega, by omega, rfl, rfl, rfl, rfl, OwnRings.nil _ _, (fun z hz => by cases hz), fun out ho => ho, by (repeat (first | (with_reducible exact SinceOf.refl _) | (with_reducible assumption) | (with_reducible refine SinceOf.alloc ?_ _) | (with_reducible refine SinceOf.drew ?_) | (with_reducible refine SinceOf.drewN ?_ _) | (with_reducible refine SinceOf.later ?_ _) | (with_reducible refine SinceOf.further ?_ _) | (with_reducible refine SinceOf.setCell ?_ (by first | exact Nat.le_refl _ | (simp; done) | omega | (simp; omega)) _)))⟩
  case round =>
    obtain ⟨k, A3, c3, n3, Z3, hk, hgas, hn3, hnk, rfl, rfl, ho3, hf3, hp3, ⟨v, rfl⟩⟩ := hrel
    have hvs := v.size
    by_cases hlt : k < Y.length
    · have hy0 := H.out.2.of (w' := v.wd) (by (repeat (first | (with_reducible exact SinceOf.refl _) | (with_reducible assumption) | (with_reducible refine SinceOf.alloc ?_ _) | (with_reducible refine SinceOf.drew ?_) | (with_reducible refine SinceOf.drewN ?_ _) | (with_reducible refine SinceOf.later ?_ _) | (with_reducible refine SinceOf.further ?_ _) | (with_reducible refine SinceOf.setCell ?_ (by first | exact Nat.le_refl _ | (simp; done) | omega | (simp; omega)) _))))
      obtain ⟨g3, off3, rfl, hr3⟩ := hy0.row.at_ (by omega)
      have hO3 := hr3.there
      have m0 := hr3.g0 k hlt
      have hry : IsRing v.wd Y[k] := hy0.all _ (List.getElem_mem hlt)
      have hd : (vxs Y).drop k = Y[k].xs :: (vxs Y).drop (k + 1) := by
        rw [List.drop_eq_getElem_cons (by rw [vxs_len]; exact hlt), vxs_at hlt]
      rw [hd] at hp3
      obtain ⟨y, hy⟩ : ∃ y, y = Y[k] := ⟨_, rfl⟩
      rw [← hy] at m0 hry hp3
      have SU := fun W (hW : SinceOf v.wd W) => negate_any y.A y.c y.xs W (hry.of hW).row hry.len
      have HQ := Lib.hid (And.intro ho3 (And.intro hn3 (And.intro hnk (And.intro hf3 hp3))))
      have hn3b : n3 ≤ 1000 := by omega
      clear ho3 hn3 hnk hf3 hp3 hry hy hr3 hy0 hd
      go_wp2_with fail
      refine (SU _ (by (repeat (first | (with_reducible exact SinceOf.refl _) | (with_reducible assumption) | (with_reducible refine SinceOf.alloc ?_ _) | (with_reducible refine SinceOf.drew ?_) | (with_reducible refine SinceOf.drewN ?_ _) | (with_reducible refine SinceOf.later ?_ _) | (with_reducible refine SinceOf.further ?_ _) | (with_reducible refine SinceOf.setCell ?_ (by first | exact Nat.le_refl _ | (simp; done) | omega | (simp; omega)) _))))).mono ?_
      rintro e _ ⟨A4, c4, o, rfl, hs4, hv4, hc4, hf4, ⟨x4, rfl⟩⟩
      have hx4 := x4.size
      by_cases h0 : o.2 = 0
      · have g0 : (o.2 != 0) = false := by simp [h0]
        have ok := hs4.canon h0
        have hpos : 0 < o.1.length := by have := ok.1.1; omega
        have hl160 := ok.1.2.1
        have hR : IsRing x4.wd ⟨A4, c4, o.1⟩ := ⟨hv4, by show o.1.length < _; omega, hc4⟩
        have hlt4 : ∀ b, blockOf A4 = some b → b < x4.wd.heap.size := fun b hb => hv4.block_lt hpos hb
        have hnew : ∀ out, NegP ((vxs Y).drop (k + 1)) (vxs (Z3 ++ [⟨A4, c4, o.1⟩])) out → NegP (vxs Y) [] out := fun out hout => by
          refine HQ.out.2.2.2.2 out ⟨o, hs4, ?_⟩
          rw [if_pos h0]
          have : vxs (Z3 ++ [⟨A4, c4, o.1⟩]) = vxs Z3 ++ [o.1] := by simp [vxs]
          rwa [this] at hout
        have HR := Lib.hid (And.intro hR (And.intro hlt4 (And.intro hnew hf4)))
        have hol : Z3.length = n3 := HQ.out.2.1.symm
        clear hs4 hv4 hf4 hR hlt4 hnew ok hpos h0 SU hc4
        obtain ⟨l4, hl4⟩ : ∃ l4, l4 = o.1 := ⟨_, rfl⟩
        rw [← hl4] at HR hl160 ⊢
        clear hl4
        generalize o.2 = er at *
        go_wp2_with (at_builtin; refine wpList_append_row rfl (.tmp 33) (.tmp 35) 22 rfl encG_len (by omega) encG_one i0 _ 24 Tryz.underlying22 HI.out.1 HI.out.2.1 HI.out.2.2.1 HI.out.2.2.2 rfl (l := Z3) (A := A3) (c := c3) (base := w.heap.size) (by rw [hol]; rfl) ((HQ.out.1.of (by (repeat (first | (with_reducible exact SinceOf.refl _) | (with_reducible assumption) | (with_reducible refine SinceOf.alloc ?_ _) | (with_reducible refine SinceOf.drew ?_) | (with_reducible refine SinceOf.drewN ?_ _) | (with_reducible refine SinceOf.later ?_ _) | (with_reducible refine SinceOf.further ?_ _) | (with_reducible refine SinceOf.setCell ?_ (by first | exact Nat.le_refl _ | (simp; done) | omega | (simp; omega)) _))))).own) (m := [⟨A4, c4, l4⟩]) rfl (isRow_atG _ _ ⟨A4, c4, l4⟩ (by first | rfl | simp)) (by rw [hol]; unfold maxLen; simp; omega) (by rw [hol]; simp; omega) (by simp; omega) ?_; intro A5 c5 w5 ho5 hgr5 hb5)
        have hpush := OwnRings.push ((HQ.out.1.of (w' := x4.wd) (by (repeat (first | (with_reducible exact SinceOf.refl _) | (with_reducible assumption) | (with_reducible refine SinceOf.alloc ?_ _) | (with_reducible refine SinceOf.drew ?_) | (with_reducible refine SinceOf.drewN ?_ _) | (with_reducible refine SinceOf.later ?_ _) | (with_reducible refine SinceOf.further ?_ _) | (with_reducible refine SinceOf.setCell ?_ (by first | exact Nat.le_refl _ | (simp; done) | omega | (simp; omega)) _))))).of (w' := x4.wd.alloc (.cells #[.slice A4 l4.length c4] 41)) (by (repeat (first | (with_reducible exact SinceOf.refl _) | (with_reducible assumption) | (with_reducible refine SinceOf.alloc ?_ _) | (with_reducible refine SinceOf.drew ?_) | (with_reducible refine SinceOf.drewN ?_ _) | (with_reducible refine SinceOf.later ?_ _) | (with_reducible refine SinceOf.further ?_ _) | (with_reducible refine SinceOf.setCell ?_ (by first | exact Nat.le_refl _ | (simp; done) | omega | (simp; omega)) _))))) (HR.out.1.of (w' := x4.wd.alloc (.cells #[.slice A4 l4.length c4] 41)) (by (repeat (first | (with_reducible exact SinceOf.refl _) | (with_reducible assumption) | (with_reducible refine SinceOf.alloc ?_ _) | (with_reducible refine SinceOf.drew ?_) | (with_reducible refine SinceOf.drewN ?_ _) | (with_reducible refine SinceOf.later ?_ _) | (with_reducible refine SinceOf.further ?_ _) | (with_reducible refine SinceOf.setCell ?_ (by first | exact Nat.le_refl _ | (simp; done) | omega | (simp; omega)) _))))) (fun b hb => ⟨by have := HR.out.2.1 b hb; simp; omega, fun e => by
          have q1 := (HQ.out.1.own.below b e).2
          have q2 := HR.out.2.2.2 b hb
          omega⟩) ho5 hgr5 hb5
        have HU := Lib.hid (And.intro hpush (SinceOf.grown (show SinceOf w (x4.wd.alloc (.cells #[.slice A4 l4.length c4] 41)) by (repeat (first | (with_reducible exact SinceOf.refl _) | (with_reducible assumption) | (with_reducible refine SinceOf.alloc ?_ _) | (with_reducible refine SinceOf.drew ?_) | (with_reducible refine SinceOf.drewN ?_ _) | (with_reducible refine SinceOf.later ?_ _) | (with_reducible refine SinceOf.further ?_ _) | (with_reducible refine SinceOf.setCell ?_ (by first | exact Nat.le_refl _ | (simp; done) | omega | (simp; omega)) _)))) hgr5 (fun q hq => (HQ.out.1.own.below q hq).1)))
        clear hpush ho5 hgr5 hb5
        go_roundg (Y.length - (k + 1))
        case measure => omega
        case rel =>
          refine ⟨k + 1, A5, c5, n3 + 1, Z3 ++ [⟨A4, c4, l4⟩], hlt, Nat.le_refl _, by simp [hol], by have := HQ.out.2.2.1; omega, (by first | rfl | (rw [hol]; try rfl)), by go_num, HU.out.1, fun q hq b hb => ?_, HR.out.2.2.1, HU.out.2⟩
          rcases List.mem_append.1 hq with hq | hq
          · exact HQ.out.2.2.2.1 q hq b hb
          · obtain rfl : q = ⟨A4, c4, l4⟩ := by simpa using hq
            have := HR.out.2.2.2 b hb
            omega
      · have g0 : (o.2 != 0) = true := by simpa using h0
        have hnew : NegP (vxs Y) [] ([], o.2) := HQ.out.2.2.2.2 _ ⟨o, hs4, by rw [if_neg h0]⟩
        have HR := Lib.hid (HN.out ([], o.2) _ hnew (by rw [if_neg h0]))
        clear hs4 hv4 hf4 hnew h0 SU hc4
        generalize o.2 = er at *
        go_wp2_with fail
        go_returns
        exact ⟨none, 0, [], er, rfl, HR.out, IsRings.nil _, (fun q hq => by cases hq), (fun b hb => by cases hb), Nat.le_refl _, by (repeat (first | (with_reducible exact SinceOf.refl _) | (with_reducible assumption) | (with_reducible refine SinceOf.alloc ?_ _) | (with_reducible refine SinceOf.drew ?_) | (with_reducible refine SinceOf.drewN ?_ _) | (with_reducible refine SinceOf.later ?_ _) | (with_reducible refine SinceOf.further ?_ _) | (with_reducible refine SinceOf.setCell ?_ (by first | exact Nat.le_refl _ | (simp; done) | omega | (simp; omega)) _)))⟩
    · obtain rfl : k = Y.length := by omega
      rw [List.drop_of_length_le (by rw [vxs_len]; exact Nat.le_refl _)] at hp3
      have hneg := hp3 _ (rfl : NegP [] (vxs Z3) (vxs Z3, 0))
      have hZb : Z3.length ≤ 1000 := by omega
      have AL := fun W (hW : SinceOf v.wd W) => minkAll_any A A3 c c3 X Z3 W (H.out.1.of (SinceOf.trans ⟨v, rfl⟩ hW)) ((ho3.rings (by omega)).of hW) hX hZb
      rw [← hn3] at AL
      have HQ := Lib.hid hneg
      clear hp3 hneg ho3 hf3 hn3 hnk hZb
      go_wp2_with fail
      refine (AL _ (by (repeat (first | (with_reducible exact SinceOf.refl _) | (with_reducible assumption) | (with_reducible refine SinceOf.alloc ?_ _) | (with_reducible refine SinceOf.drew ?_) | (with_reducible refine SinceOf.drewN ?_ _) | (with_reducible refine SinceOf.later ?_ _) | (with_reducible refine SinceOf.further ?_ _) | (with_reducible refine SinceOf.setCell ?_ (by first | exact Nat.le_refl _ | (simp; done) | omega | (simp; omega)) _))))).mono ?_
      rintro e _ ⟨B1, d1, Z, err, rfl, hZ, hP, hf1, hf2, hd1, ⟨y1, rfl⟩⟩
      have HR := Lib.hid (And.intro hZ (And.intro (HN.out (vxs Z, err) _ HQ.out (by rw [if_pos rfl]; exact hP)) (And.intro (fun z hz b hb => Nat.le_trans hvs (hf1 z hz b hb)) (And.intro (fun b hb => Nat.le_trans hvs (hf2 b hb)) hd1))))
      clear hZ hP hf1 hf2 hd1 AL
      go_wp2_with fail
      go_returns
      exact ⟨B1, d1, Z, err, rfl, HR.out.2.1, HR.out.1, HR.out.2.2.1, HR.out.2.2.2.1, HR.out.2.2.2.2, by (repeat (first | (with_reducible exact SinceOf.refl _) | (with_reducible assumption) | (with_reducible refine SinceOf.alloc ?_ _) | (with_reducible refine SinceOf.drew ?_) | (with_reducible refine SinceOf.drewN ?_ _) | (with_reducible refine SinceOf.later ?_ _) | (with_reducible refine SinceOf.further ?_ _) | (with_reducible refine SinceOf.setCell ?_ (by first | exact Nat.le_refl _ | (simp; done) | omega | (simp; omega)) _)))⟩
end Go.Proofs.YtpbgimdbhgahkaaGreat
