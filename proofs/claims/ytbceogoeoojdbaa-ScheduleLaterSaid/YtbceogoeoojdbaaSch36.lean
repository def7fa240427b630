/- Layer 52: ScheduleLater: own rows that are written by fields; calendars that are made; the walk. -/
import Derived.Test.YtbceogoeoojdbaaSch33
import Derived.Test.YtbceogoeoojdbaaSch35
namespace Go.Proofs.Ytbceogoeoojdbaa
open Go.RowKit Go.Sort
set_option linter.unusedVariables false
attribute [local go_sem ↓] Go.wp_at_zero Go.wp_at_succ

theorem Owns.setAt {α : Type} {enc : α → List Value} {k base : Nat} {e : TypeId} {w : World} {c g : Nat} {l : List α} (hk : ∀ x, (enc x).length = k) (hk0 : 0 < k) (h : Owns enc k base e w (some ⟨g, 0, none⟩) c l) (i : Nat) (hi : i < l.length) (j : Nat) (hj : j < k) (u : Value) (y : α) (hy : enc y = (enc l[i]).set j u) :
    Owns enc k base e (w.setCell ⟨g, i * k + j, none⟩ u) (some ⟨g, 0, none⟩) c (l.set i y) := by
  obtain ⟨h1, -⟩ := World.ownsRow.stored h (i * k + j) u
  unfold Owns
  rw [List.length_set]
  have e1 : (l.flatMap enc).set (i * k + j) u = (l.set i y).flatMap enc := by
    apply List.ext_getElem?
    intro m
    by_cases hm : m < l.length * k
    · have hq : m / k < l.length := Nat.div_lt_of_lt_mul (by rw [Nat.mul_comm]; exact hm)
      have hr : m % k < k := Nat.mod_lt _ hk0
      have hb := flat_get hk (l.set i y) (m / k) (by rw [List.length_set]; exact hq) (m % k) hr
      have ha := flat_get hk l (m / k) hq (m % k) hr
      rw [Nat.div_add_mod'] at ha hb
      rw [hb, List.getElem?_set]
      by_cases e : i * k + j = m
      · have d1 : m / k = i := by rw [← e, Nat.mul_comm, Nat.mul_add_div hk0, Nat.div_eq_of_lt hj, Nat.add_zero]
        have d2 : m % k = j := by rw [← e, Nat.mul_comm, Nat.mul_add_mod, Nat.mod_eq_of_lt hj]
        rw [if_pos e, if_pos (by rw [flat_length hk, e]; exact hm)]
        simp only [d1, d2, List.getElem_set_self, hy, List.getElem?_set]
        simp [hk, hj]
      · rw [if_neg e, ha]
        by_cases e4 : m / k = i
        · have e5 : ¬ j = m % k := fun e5 => e (by rw [e5, ← e4, Nat.div_add_mod'])
          simp only [e4, List.getElem_set_self, hy, List.getElem?_set]
          rw [if_neg e5]
        · rw [List.getElem_set_ne (by omega)]
    · rw [List.getElem?_eq_none (by rw [List.length_set, flat_length hk]; omega), List.getElem?_eq_none (by rw [flat_length hk, List.length_set]; omega)]
  rw [← e1]; exact h1
/-- The first k jobs are moved. -/
def shTo (d : Int) (k : Nat) (L : List JobR) : List JobR := (L.take k).map (shJ d) ++ L.drop k
theorem shTo_length (d : Int) (k : Nat) (L : List JobR) : (shTo d k L).length = L.length := by unfold shTo; simp; omega
theorem shTo_at {d : Int} {k : Nat} {L : List JobR} (h : k < L.length) : (shTo d k L)[k]'(by rw [shTo_length]; exact h) = L[k] := by
  unfold shTo
  rw [List.getElem_append_right (by simp; omega)]
  simp [Nat.min_eq_left (Nat.le_of_lt h)]
theorem shTo_succ {d : Int} {k : Nat} {L : List JobR} (h : k < L.length) : (shTo d k L).set k (shJ d L[k]) = shTo d (k + 1) L := by
  unfold shTo
  rw [List.set_append_right _ _ (by simp; omega), List.drop_eq_getElem_cons h, List.take_succ_eq_append_getElem h, List.length_map, List.length_take, Nat.min_eq_left (Nat.le_of_lt h), Nat.sub_self, List.set_cons_zero, List.map_append, List.append_assoc]
  rfl
theorem Owns.shift {base : Nat} {e : TypeId} {w : World} {c g : Nat} {L : List JobR} {d : Int} {k : Nat} (h : Owns encJ 6 base e w (some ⟨g, 0, none⟩) c (shTo d k L)) (hk : k < L.length) (r u : Int) (hr : r = L[k].rel + d) (hu : u = L[k].due + d) :
    Owns encJ 6 base e ((w.setCell ⟨g, k * 6 + 3, none⟩ (.int .i64 r)).setCell ⟨g, k * 6 + 4, none⟩ (.int .i64 u)) (some ⟨g, 0, none⟩) c (shTo d (k + 1) L) := by
  have hl : k < (shTo d k L).length := by rw [shTo_length]; exact hk
  have h1 := h.setAt encJ_len (by omega) k hl 3 (by omega) (.int .i64 r) ⟨L[k].A, L[k].c, L[k].ms, L[k].dur, L[k].cls, r, L[k].due, L[k].ord⟩ (by rw [shTo_at hk]; rfl)
  have h2 := h1.setAt encJ_len (by omega) k (by rw [List.length_set]; exact hl) 4 (by omega) (.int .i64 u) ⟨L[k].A, L[k].c, L[k].ms, L[k].dur, L[k].cls, r, u, L[k].ord⟩ (by rw [List.getElem_set_self]; rfl)
  rw [List.set_set] at h2
  subst hr hu
  rw [← shTo_succ hk]
  exact h2
/-- Calendars that are always open, each with a block of its own for its shift. -/
def Lone (base : Nat) (w : World) (A : Option Addr) (AL : List CalR) : Prop := ∀ x ∈ AL, ∃ b, x = ⟨1, some ⟨b, 0, none⟩, 1, [(0, 1)], none, 0, []⟩ ∧ base ≤ b ∧ b < w.heap.size ∧ blockOf A ≠ some b ∧ w.cell? ⟨b, 0, none⟩ = some (.int .i64 0) ∧ w.cell? ⟨b, 1, none⟩ = some (.int .i64 1)
theorem Lone.step {base : Nat} {w w3 : World} {A A3 : Option Addr} {AL : List CalR} {t1 : TypeId} {o2 : Obj} (hl : Lone base w A AL) (hA : ∀ b, blockOf A = some b → b < w.heap.size) (hb : base ≤ w.heap.size)
    (hgr : ((w.alloc (.cells #[.int .i64 0, .int .i64 1] t1)).alloc o2).grownBy w3 (blockOf A)) (hbl : blockOf A3 = blockOf A ∨ blockOf A3 = some ((w.alloc (.cells #[.int .i64 0, .int .i64 1] t1)).alloc o2).heap.size) :
    Lone base w3 A3 (AL ++ [⟨1, some ⟨w.heap.size, 0, none⟩, 1, [(0, 1)], none, 0, []⟩]) := by
  have hs := hgr.size
  simp at hs
  intro x hx
  rcases List.mem_append.1 hx with hx | hx
  · obtain ⟨b, rfl, b1, b2, b3, b4, b5⟩ := hl x hx
    have S2 : SinceOf w ((w.alloc (.cells #[.int .i64 0, .int .i64 1] t1)).alloc o2) := ((SinceOf.refl w).alloc _).alloc _
    refine ⟨b, rfl, b1, by omega, ?_, hgr.cell ((S2.below.cell (p := ⟨b, 0, none⟩) b2).trans b4) (fun e => b3 e.symm), hgr.cell ((S2.below.cell (p := ⟨b, 1, none⟩) b2).trans b5) (fun e => b3 e.symm)⟩
    rcases hbl with e | e
    · rw [e]; exact b3
    · rw [e]; simp; omega
  · obtain rfl : x = _ := by simpa using hx
    have hne : some w.heap.size ≠ blockOf A := fun e => by have := hA _ e.symm; omega
    refine ⟨w.heap.size, rfl, hb, by omega, ?_, hgr.cell (by simp [go_sem]) hne, hgr.cell (by simp [go_sem]) hne⟩
    rcases hbl with e | e
    · rw [e]; exact fun h => hne h.symm
    · rw [e]; simp; omega
theorem Lone.open_ {base : Nat} {w : World} {A : Option Addr} {AL : List CalR} (h : Lone base w A AL) : ∀ x ∈ AL, OpenC x := fun x hx => by
  obtain ⟨b, rfl, -⟩ := h x hx
  exact ⟨rfl, rfl, rfl⟩
theorem Lone.shop {base : Nat} {W : World} {A : Option Addr} {c : Nat} {AL : List CalR} {s : ShopR} (h : Lone base W A AL) (hr : IsRow encC 3 W A c AL) (hl : AL.length < 4611686018427387904) (hs : IsRows W s.B s.d s.rows) : IsShop W (shopW s A c AL) := by
  refine ⟨⟨hr, fun x hx => ?_, hl⟩, hs⟩
  obtain ⟨b, rfl, b1, b2, b3, b4, b5⟩ := h x hx
  refine ⟨rfl, rfl, ⟨(fun e => by cases e), .inr ⟨b, 0, rfl, ⟨fun i hi j u hu => ?_, ⟨⟨b2⟩⟩⟩⟩⟩, IsRow.nil _ _ _, by simp, by simp⟩
  have hi0 : i = 0 := by simp at hi; omega
  subst hi0
  match j, hu with
  | 0, hu => simp [encV] at hu; subst hu; simpa using b4
  | 1, hu => simp [encV] at hu; subst hu; simpa using b5
  | j + 2, hu => simp [encV] at hu
theorem Lone.setOther {base g : Nat} {w : World} {A : Option Addr} {AL : List CalR} (h : Lone base w A AL) (hg : g < base) (o : Nat) (u : Value) : Lone base (w.setCell ⟨g, o, none⟩ u) A AL := fun x hx => by
  obtain ⟨b, rfl, b1, b2, b3, b4, b5⟩ := h x hx
  refine ⟨b, rfl, b1, by simpa using b2, b3, ?_, ?_⟩
  · rw [World.cell?_setCell_other _ _ _ _ (by intro e; injection e with e; omega)]; exact b4
  · rw [World.cell?_setCell_other _ _ _ _ (by intro e; injection e with e; omega)]; exact b5
theorem shTo_all (d : Int) (L : List JobR) : shTo d L.length L = L.map (shJ d) := by unfold shTo; rw [List.take_length, List.drop_length, List.append_nil]
theorem jobs_map {w W : World} {L : List JobR} {A B : Option Addr} {c e : Nat} {d : Int} (hs : IsJobs w A c L) (hr : IsRow encJ 6 W B e (L.map (shJ d))) (hW : SinceOf w W) : IsJobs W B e (L.map (shJ d)) :=
  ⟨hr, fun x hx => by obtain ⟨j, hj, rfl⟩ := List.mem_map.1 hx; exact ⟨(hs.all j hj).1.of hW, (hs.all j hj).2⟩, by rw [List.length_map]; exact hs.len⟩
theorem go_len (s : ShopR) (L : List JobR) : ∀ (r : List Int) (l : List SlotR) (left : List Int), (listGo s L l left r).2.1.length ≤ l.length + r.length
  | [], l, left => by simp [listGo]
  | j :: r, l, left => by
    unfold listGo
    by_cases ha : askedE L l j = 0
    · rw [if_pos ha]
      cases dispatchV s L l j with
      | none => have := go_len s L r l (left ++ [j]); rw [List.length_cons]; show (listGo s L l (left ++ [j]) r).2.1.length ≤ _; omega
      | some x => have := go_len s L r (l ++ [x]) left; rw [List.length_append, List.length_singleton] at this; rw [List.length_cons]; show (listGo s L (l ++ [x]) left r).2.1.length ≤ _; omega
    · rw [if_neg ha]; simp
theorem list_len (s : ShopR) (L : List JobR) (order : List Int) : (listV s L order).2.1.length ≤ order.length := by
  unfold listV
  split
  · have := go_len s L order [] []; simpa using this
  · simp
theorem list_gives (s : ShopR) (A : Option Addr) (c : Nat) (L : List JobR) (C : Option Addr) (d : Nat) (order : List Int) (w : World) (hs : IsShop w s) (h : IsJobs w A c L) (ho : IsInts w C d order) (hol : order.length < 1073741824) {e : Int} {la : List SlotR} {lf : List Int} (hv : listV s L order = (e, la, lf)) {sv : Value} (hsv : shopV s = sv) {n : Nat} (hn : L.length = n) :
    Calls Try.prog 24 #[sv, .slice A n c, .slice C order.length d] w fun en w' => ∃ (B : Option Addr) (b : Nat) (E : Option Addr) (f : Nat), en = .returned (.tuple #[.slice B la.length b, .slice E lf.length f, .int .i64 e]) ∧ IsSlots w' B b la ∧ SinceOf w w' := by
  subst hsv hn
  have := list_any s A c L C d order w hs h ho hol
  rw [hv] at this
  exact this.mono fun en w' ⟨B, b, E, f, h1, h2, _, _, h3⟩ => ⟨B, b, E, f, h1, h2, h3⟩
@[go_sem ↓] theorem neq_slot4 (w : World) (a0 a1 a2 a3 b0 b1 b2 b3 : Int) : (binOp .neq 46 (costV a0 a1 a2 a3) (costV b0 b1 b2 b3)).run Try.prog w = .ok (.bool (!eqC a0 a1 a2 a3 b0 b1 b2 b3)) w := by
  rw [run_neq_struct, equalIn_slot4]; rfl
end Go.Proofs.Ytbceogoeoojdbaa
