/- Slices: 'IsRow enc k w A c l': the slice at A (capacity c) reads as the list l, an element x being the k cells 'enc x'. 'Owns ..': the call itself made it. -/
import Derived.Test.YtdcncalcncomoaaLater
import Derived.Laws.OwnMore
import Derived.Laws.AppendOwnNone
import Derived.Maps.AppendAt
import Derived.Deep.AppendLies
namespace Go.Proofs.Ytdcncalcncomoaa
open Go.RowKit

structure RowAt {α : Type} (enc : α → List Value) (k : Nat) (w : World) (g off : Nat) (l : List α) : Prop where
  cells : ∀ i (h : i < l.length) j u, (enc l[i])[j]? = some u → w.cell? ⟨g, off + i * k + j, none⟩ = some u
  there : Nonempty (Old w g)
def IsRow {α : Type} (enc : α → List Value) (k : Nat) (w : World) (A : Option Addr) (c : Nat) (l : List α) : Prop :=
  (A = none → c = 0) ∧ (l = [] ∨ ∃ g off, A = some ⟨g, off, none⟩ ∧ RowAt enc k w g off l)
/-- Made by the call: its blocks are numbered from 'base' on. -/
def Owns {α : Type} (enc : α → List Value) (k : Nat) (base : Nat) (e : TypeId) (w : World) (A : Option Addr) (c : Nat) (l : List α) : Prop :=
  w.ownsRow base e k (.slice A l.length c) l.length (l.flatMap enc)
def blockOf (A : Option Addr) : Option Nat := A.map (·.block)

section
variable {α : Type} {enc : α → List Value} {k : Nat} {w w' : World} {g off c : Nat} {A : Option Addr} {l : List α}
theorem RowAt.of (h : RowAt enc k w g off l) (hs : SinceOf w w') : RowAt enc k w' g off l := by
  obtain ⟨z, rfl⟩ := hs
  have := h.there
  exact ⟨fun i hi j u hu => by rw [Since.cell]; exact h.cells i hi j u hu, inferInstance⟩
theorem IsRow.of (h : IsRow enc k w A c l) (hs : SinceOf w w') : IsRow enc k w' A c l := by
  refine ⟨h.1, ?_⟩
  rcases h.2 with h | ⟨g, off, e, h⟩
  · exact .inl h
  · exact .inr ⟨g, off, e, h.of hs⟩
theorem IsRow.since (h : IsRow enc k w A c l) (z : Since w) : IsRow enc k z.wd A c l := h.of ⟨z, rfl⟩
theorem IsRow.later (h : IsRow enc k w A c l) (z : Later w) : IsRow enc k z.wd A c l := h.of ⟨z.since, rfl⟩
theorem IsRow.at_ (h : IsRow enc k w A c l) (hn : 0 < l.length) : ∃ g off, A = some ⟨g, off, none⟩ ∧ RowAt enc k w g off l := by
  rcases h.2 with rfl | h
  · simp at hn
  · exact h
theorem IsRow.nil (enc : α → List Value) (k : Nat) (w : World) : IsRow enc k w none 0 [] := ⟨fun _ => rfl, .inl rfl⟩

theorem flat_length (hk : ∀ x, (enc x).length = k) (l : List α) : (l.flatMap enc).length = l.length * k := by
  induction l with
  | nil => simp
  | cons x l ih => simp [List.flatMap_cons, ih, hk, Nat.add_mul, Nat.add_comm]
theorem flat_get (hk : ∀ x, (enc x).length = k) : ∀ (l : List α) (i : Nat) (h : i < l.length) (j : Nat), j < k → (l.flatMap enc)[i * k + j]? = (enc l[i])[j]?
  | [], i, h, _, _ => by simp at h
  | x :: l, 0, _, j, hj => by
    rw [List.flatMap_cons, Nat.zero_mul, Nat.zero_add, List.getElem?_append_left (by rw [hk]; exact hj)]; rfl
  | x :: l, i + 1, h, j, hj => by
    rw [List.flatMap_cons, List.getElem?_append_right (by rw [hk, Nat.add_mul]; omega), hk, show (i + 1) * k + j - k = i * k + j from by rw [Nat.add_mul]; omega]
    rw [flat_get hk l i (by simpa using h) j hj]; simp
theorem flat_at (hk : ∀ x, (enc x).length = k) (hk0 : 0 < k) (l : List α) (j : Nat) (u : Value) (h : (l.flatMap enc)[j]? = some u) : ∃ (hi : j / k < l.length), (enc l[j / k])[j % k]? = some u := by
  have hj : j < l.length * k := by
    have := (List.getElem?_eq_some_iff.1 h).1
    rwa [flat_length hk] at this
  have hi : j / k < l.length := Nat.div_lt_of_lt_mul (by rw [Nat.mul_comm]; exact hj)
  refine ⟨hi, ?_⟩
  rw [← flat_get hk l (j / k) hi (j % k) (Nat.mod_lt _ hk0), Nat.mul_comm, Nat.div_add_mod, h]
theorem add_none (g off j : Nat) : (⟨g, off, none⟩ : Addr).add j = ⟨g, off + j, none⟩ := by unfold Addr.add; split <;> simp_all
theorem RowAt.news (hk : ∀ x, (enc x).length = k) (hk0 : 0 < k) (h : RowAt enc k w g off l) : ∀ j u, (l.flatMap enc)[j]? = some u → w.cell? ((⟨g, off, none⟩ : Addr).add j) = some u := by
  intro j u hu
  obtain ⟨hi, he⟩ := flat_at hk hk0 l j u hu
  rw [add_none]
  have := h.cells _ hi _ _ he
  rwa [Nat.add_assoc, Nat.mul_comm, Nat.div_add_mod] at this

variable {base : Nat} {e : TypeId}
theorem Owns.nil (enc : α → List Value) (k base : Nat) (e : TypeId) (w : World) : Owns enc k base e w none 0 [] := by simpa [Owns] using World.ownsRow_nil w base e k
theorem Owns.alloc (h : Owns enc k base e w A c l) (o : Obj) : Owns enc k base e (w.alloc o) A c l := World.ownsRow.alloc h o
theorem Owns.kept {row : Option Nat} (h : Owns enc k base e w A c l) (hg : w.grownBy w' row) (hne : blockOf A = none ∨ blockOf A ≠ row) : Owns enc k base e w' A c l := by
  refine World.ownsRow.kept h hg ?_
  cases A with
  | none => exact .inl rfl
  | some a => simpa [blockOf, Value.ownBlock] using hne
theorem Owns.below (h : Owns enc k base e w A c l) : ∀ b, blockOf A = some b → base ≤ b ∧ b < w.heap.size := by
  intro b hb
  refine World.ownsRow.lt h b ?_
  cases A with
  | none => simp [blockOf] at hb
  | some a => simpa [blockOf, Value.ownBlock] using hb
theorem Owns.of (h : Owns enc k base e w A c l) (hs : SinceOf w w') : Owns enc k base e w' A c l := by
  obtain ⟨z, rfl⟩ := hs
  obtain ⟨h1, h2⟩ := h
  refine ⟨h1, ?_⟩
  rcases h2 with h2 | ⟨g, cap, cur, hv, hb, hg, r⟩
  · exact .inl h2
  · refine .inr ⟨g, cap, cur, hv, hb, ?_, r⟩
    rw [z.below.block g ?_]
    · exact hg
    · rcases Nat.lt_or_ge g w.heap.size with hlt | hge
      · exact hlt
      · rw [Array.getElem?_eq_none hge] at hg; cases hg
theorem Owns.base_le {b : Nat} (h : Owns enc k base e w A c l) (hb : b ≤ base) : Owns enc k b e w A c l := by
  obtain ⟨h1, h2⟩ := h
  refine ⟨h1, ?_⟩
  rcases h2 with h2 | ⟨g, cap, cur, hv, hbg, r⟩
  · exact .inl h2
  · exact .inr ⟨g, cap, cur, hv, Nat.le_trans hb hbg, r⟩
theorem Owns.isRow (hk : ∀ x, (enc x).length = k) (h : Owns enc k base e w A c l) : IsRow enc k w A c l := by
  obtain ⟨h1, h2⟩ := h
  rcases h2 with ⟨h2, h3⟩ | ⟨g, cap, cur, hv, hb, hg, hn, hm, hs, ht⟩
  · simp only [Value.slice.injEq] at h2
    exact ⟨fun _ => h2.2.2, .inl (List.eq_nil_of_length_eq_zero h3)⟩
  · simp only [Value.slice.injEq, true_and] at hv
    obtain ⟨rfl, rfl⟩ := hv
    refine ⟨(by intro h; cases h), .inr ⟨g, 0, rfl, ⟨fun i hi j u hu => ?_, ⟨⟨?_⟩⟩⟩⟩⟩
    · have hj : j < k := by
        have := (List.getElem?_eq_some_iff.1 hu).1
        rwa [hk] at this
      have hlt : i * k + j < l.length * k := by
        calc i * k + j < i * k + k := by omega
          _ = (i + 1) * k := by rw [Nat.add_mul]; omega
          _ ≤ l.length * k := Nat.mul_le_mul_right _ hi
      rw [Nat.zero_add, cell_of_row w g (i * k + j) cur e (0, 0) hg]
      have h3 : cur.toList[i * k + j]? = some u := by
        have := flat_get hk l i hi j hj
        rw [hu, ← ht, List.getElem?_take, if_pos hlt] at this
        exact this
      simpa using h3
    · rcases Nat.lt_or_ge g w.heap.size with hlt | hge
      · exact hlt
      · rw [Array.getElem?_eq_none hge] at hg; cases hg
/-- 'append(v, x...)', v the call's own, x whatever slice. -/
theorem run_append_row {P : Program} (hk : ∀ x, (enc x).length = k) (hk0 : 0 < k) (h1c : ∀ x, ∀ u ∈ enc x, u.oneCell' = true) (t ty : TypeId) (i : TypeInfo) (z : Value) (bytes : Nat) (ht : P.underlying t = some (.slice e)) (hi : P.info? e = some i) (hz : i.zero = some z)
    (hsize : i.size = k) (hby : i.bytes = bytes) (hzs : z.cells.size = k) (hown : Owns enc k base e w A c l) {B : Option Addr} {d : Nat} {m : List α} (hm : IsRow enc k w B d m)
    (h63 : l.length + m.length ≤ maxLen) (hbytes : (l.length + m.length) * bytes ≤ 140737488355328) (hbase : base ≤ w.heap.size) :
    ∃ A' c' w', (Builtin.append_ #[t, t] ty #[.slice A l.length c, .slice B m.length d]).run P w = .ok (.slice A' (l.length + m.length) c') w' ∧ Owns enc k base e w' A' c' (l ++ m) ∧ w.grownBy w' (blockOf A) ∧ (blockOf A' = blockOf A ∨ blockOf A' = some w.heap.size) := by
  have hfl : l.flatMap enc ++ m.flatMap enc = (l ++ m).flatMap enc := by simp
  have hbl : (Value.slice A l.length c).ownBlock = blockOf A := by cases A <;> rfl
  have main : ∀ ad : Addr, B = some ad → (∀ j u, (m.flatMap enc)[j]? = some u → w.cell? (ad.add j) = some u) →
      ∃ A' c' w', (Builtin.append_ #[t, t] ty #[.slice A l.length c, .slice B m.length d]).run P w = .ok (.slice A' (l.length + m.length) c') w' ∧ Owns enc k base e w' A' c' (l ++ m) ∧ w.grownBy w' (blockOf A) ∧ (blockOf A' = blockOf A ∨ blockOf A' = some w.heap.size) := by
    rintro ad rfl hnews
    obtain ⟨v', w', hr, h2, h3, _, h5⟩ := run_append_own_at (P := P) w base t ty e i z k bytes ht hi hz hsize hby hzs hk0 _ _ _ hown ad m.length d (m.flatMap enc) (flat_length hk m) hnews
      (fun u hu => by simp only [List.mem_flatMap] at hu; obtain ⟨x, _, hx⟩ := hu; exact h1c x u hx) h63 hbytes hbase
    have hform : ∃ A' c', v' = .slice A' (l.length + m.length) c' := by
      rcases h2.2 with ⟨rfl, h0⟩ | ⟨g, cap, cur, hv, _⟩
      · exact ⟨none, 0, by rw [h0]⟩
      · exact ⟨_, _, hv⟩
    obtain ⟨A', c', rfl⟩ := hform
    rw [hfl] at h2
    rw [hbl] at h3 h5
    refine ⟨A', c', w', hr, ?_, h3, ?_⟩
    · unfold Owns; rw [List.length_append]; exact h2
    · have : (Value.slice A' (l.length + m.length) c').ownBlock = blockOf A' := by cases A' <;> rfl
      rw [this] at h5
      exact h5
  rcases hm.2 with rfl | ⟨g, off, rfl, hr⟩
  · cases B with
    | none =>
      obtain rfl : d = 0 := hm.1 rfl
      have hrun := run_append_owned_none (P := P) (w := w) base t ty e i k ht hi _ _ _ hown
      exact ⟨A, c, w, hrun, by simpa using hown, ⟨rfl, rfl, rfl, Nat.le_refl _, fun _ _ _ => rfl⟩, .inl rfl⟩
    | some ad => exact main ad rfl (by simp)
  · exact main _ rfl (hr.news hk hk0)
end

section
variable {α : Type} {enc : α → List Value} {k : Nat} {P : Program} {base : Nat} {e : TypeId}
theorem wp_append_row {w : World} {o : Oper} {a : Act} {K : Act → World → Prop} {Q : Exit → Act → World → Prop} (s x : Operand) (t : TypeId)
    (ho : o.op = .call { callee := .builtin .append, args := #[s, x], argTypes := #[t, t] })
    (hk : ∀ x, (enc x).length = k) (hk0 : 0 < k) (h1c : ∀ x, ∀ u ∈ enc x, u.oneCell' = true) (i : TypeInfo) (z : Value) (bytes : Nat) (ht : P.underlying t = some (.slice e)) (hi : P.info? e = some i) (hz : i.zero = some z)
    (hsize : i.size = k) (hby : i.bytes = bytes) (hzs : z.cells.size = k) {A : Option Addr} {c : Nat} {l : List α} (hs : a.eval s = .slice A l.length c) (hown : Owns enc k base e w A c l) {B : Option Addr} {d : Nat} {m : List α} (hx : a.eval x = .slice B m.length d) (hm : IsRow enc k w B d m)
    (h63 : l.length + m.length ≤ maxLen) (hbytes : (l.length + m.length) * bytes ≤ 140737488355328) (hbase : base ≤ w.heap.size)
    (h : ∀ A' c' w', Owns enc k base e w' A' c' (l ++ m) → w.grownBy w' (blockOf A) → (blockOf A' = blockOf A ∨ blockOf A' = some w.heap.size) → K (a.put o.dst (.slice A' (l.length + m.length) c')) w') : o.wp P a w K Q := by
  obtain ⟨A', c', w', hr, h2, h3, h4⟩ := run_append_row (P := P) hk hk0 h1c t o.type i z bytes ht hi hz hsize hby hzs hown hm h63 hbytes hbase
  unfold Oper.wp execOp
  simp only [ho, resolve, invoke, builtin, Sem.run_bind, Sem.run_pure, Result.andThen_ok, List.map_toArray, List.map_cons, List.map_nil, hs, hx, hr]
  exact h A' c' w' h2 h3 h4
theorem wpList_append_row {w : World} {ops : Array Oper} {rest : List Oper} {o : Oper} {a : Act} {Q : Exit → Act → World → Prop} (hgd : o.guard = none) (s x : Operand) (t : TypeId)
    (ho : o.op = .call { callee := .builtin .append, args := #[s, x], argTypes := #[t, t] })
    (hk : ∀ x, (enc x).length = k) (hk0 : 0 < k) (h1c : ∀ x, ∀ u ∈ enc x, u.oneCell' = true) (i : TypeInfo) (z : Value) (bytes : Nat) (ht : P.underlying t = some (.slice e)) (hi : P.info? e = some i) (hz : i.zero = some z)
    (hsize : i.size = k) (hby : i.bytes = bytes) (hzs : z.cells.size = k) {A : Option Addr} {c : Nat} {l : List α} (hs : a.eval s = .slice A l.length c) (hown : Owns enc k base e w A c l) {B : Option Addr} {d : Nat} {m : List α} (hx : a.eval x = .slice B m.length d) (hm : IsRow enc k w B d m)
    (h63 : l.length + m.length ≤ maxLen) (hbytes : (l.length + m.length) * bytes ≤ 140737488355328) (hbase : base ≤ w.heap.size)
    (h : ∀ A' c' w', Owns enc k base e w' A' c' (l ++ m) → w.grownBy w' (blockOf A) → (blockOf A' = blockOf A ∨ blockOf A' = some w.heap.size) → wpList P ops Q rest (a.put o.dst (.slice A' (l.length + m.length) c')) w') : wpList P ops Q (o :: rest) a w :=
  wpList_plain hgd fun _ hK => wp_append_row s x t ho hk hk0 h1c i z bytes ht hi hz hsize hby hzs hs hown hx hm h63 hbytes hbase fun A' c' w' h2 h3 h4 => hK _ _ (h A' c' w' h2 h3 h4)
theorem step_append_row {w : World} {ops : Array Oper} {o : Oper} {a : Act} {K : Act → World → Prop} {Q : Exit → Act → World → Prop} {E : Prop} (hgd : o.guard = none) (s x : Operand) (t : TypeId)
    (ho : o.op = .call { callee := .builtin .append, args := #[s, x], argTypes := #[t, t] })
    (hk : ∀ x, (enc x).length = k) (hk0 : 0 < k) (h1c : ∀ x, ∀ u ∈ enc x, u.oneCell' = true) (i : TypeInfo) (z : Value) (bytes : Nat) (ht : P.underlying t = some (.slice e)) (hi : P.info? e = some i) (hz : i.zero = some z)
    (hsize : i.size = k) (hby : i.bytes = bytes) (hzs : z.cells.size = k) {A : Option Addr} {c : Nat} {l : List α} (hs : a.eval s = .slice A l.length c) (hown : Owns enc k base e w A c l) {B : Option Addr} {d : Nat} {m : List α} (hx : a.eval x = .slice B m.length d) (hm : IsRow enc k w B d m)
    (h63 : l.length + m.length ≤ maxLen) (hbytes : (l.length + m.length) * bytes ≤ 140737488355328) (hbase : base ≤ w.heap.size)
    (h : ∀ A' c' w', Owns enc k base e w' A' c' (l ++ m) → w.grownBy w' (blockOf A) → (blockOf A' = blockOf A ∨ blockOf A' = some w.heap.size) → K (a.put o.dst (.slice A' (l.length + m.length) c')) w') :
    if Region.wanted o (yielded ops a.tmps) = true then Oper.wp P o a w K Q else E := by
  have hw : Region.wanted o (yielded ops a.tmps) = true := by simp [Region.wanted, hgd]
  rw [if_pos hw]
  exact wp_append_row s x t ho hk hk0 h1c i z bytes ht hi hz hsize hby hzs hs hown hx hm h63 hbytes hbase h
end

end Go.Proofs.Ytdcncalcncomoaa
