/- append where the appended slice has another type name than the row. -/
import Derived.Test.YtpbgimdbhgahkaaGreatSl
namespace Go.Proofs.YtpbgimdbhgahkaaGreat
open Go.RowKit
set_option linter.unusedVariables false
section
variable {α : Type} {enc : α → List Value} {k : Nat} {P : Program} {base : Nat} {e : TypeId}
theorem run_append_types {t t2 ty : TypeId} {w : World} (ht : P.underlying t = some (.slice e)) (ht2 : P.underlying t2 = some (.slice e)) (A B : Option Addr) (n c m d : Nat) :
    (Builtin.append_ #[t, t2] ty #[.slice A n c, .slice B m d]).run P w = (Builtin.append_ #[t, t] ty #[.slice A n c, .slice B m d]).run P w := by
  simp [Builtin.append_, run_underlying ht, run_underlying ht2]
theorem wp_append_row2 {w : World} {o : Oper} {a : Act} {K : Act → World → Prop} {Q : Exit → Act → World → Prop} (s x : Operand) (t t2 : TypeId)
    (ho : o.op = .call { callee := .builtin .append, args := #[s, x], argTypes := #[t, t2] })
    (hk : ∀ x, (enc x).length = k) (hk0 : 0 < k) (h1c : ∀ x, ∀ u ∈ enc x, u.oneCell' = true) (i : TypeInfo) (z : Value) (bytes : Nat) (ht : P.underlying t = some (.slice e)) (ht2 : P.underlying t2 = some (.slice e)) (hi : P.info? e = some i) (hz : i.zero = some z)
    (hsize : i.size = k) (hby : i.bytes = bytes) (hzs : z.cells.size = k) {A : Option Addr} {c : Nat} {l : List α} (hs : a.eval s = .slice A l.length c) (hown : Owns enc k base e w A c l) {B : Option Addr} {d : Nat} {m : List α} (hx : a.eval x = .slice B m.length d) (hm : IsRow enc k w B d m)
    (h63 : l.length + m.length ≤ maxLen) (hbytes : (l.length + m.length) * bytes ≤ 140737488355328) (hbase : base ≤ w.heap.size)
    (h : ∀ A' c' w', Owns enc k base e w' A' c' (l ++ m) → w.grownBy w' (blockOf A) → (blockOf A' = blockOf A ∨ blockOf A' = some w.heap.size) → K (a.put o.dst (.slice A' (l.length + m.length) c')) w') : o.wp P a w K Q := by
  obtain ⟨A', c', w', hr, h2, h3, h4⟩ := run_append_row (P := P) hk hk0 h1c t o.type i z bytes ht hi hz hsize hby hzs hown hm h63 hbytes hbase
  rw [← run_append_types ht ht2] at hr
  unfold Oper.wp execOp
  simp only [ho, resolve, invoke, builtin, Sem.run_bind, Sem.run_pure, Result.andThen_ok, List.map_toArray, List.map_cons, List.map_nil, hs, hx, hr]
  exact h A' c' w' h2 h3 h4
theorem wpList_append_row2 {w : World} {ops : Array Oper} {rest : List Oper} {o : Oper} {a : Act} {Q : Exit → Act → World → Prop} (hgd : o.guard = none) (s x : Operand) (t t2 : TypeId)
    (ho : o.op = .call { callee := .builtin .append, args := #[s, x], argTypes := #[t, t2] })
    (hk : ∀ x, (enc x).length = k) (hk0 : 0 < k) (h1c : ∀ x, ∀ u ∈ enc x, u.oneCell' = true) (i : TypeInfo) (z : Value) (bytes : Nat) (ht : P.underlying t = some (.slice e)) (ht2 : P.underlying t2 = some (.slice e)) (hi : P.info? e = some i) (hz : i.zero = some z)
    (hsize : i.size = k) (hby : i.bytes = bytes) (hzs : z.cells.size = k) {A : Option Addr} {c : Nat} {l : List α} (hs : a.eval s = .slice A l.length c) (hown : Owns enc k base e w A c l) {B : Option Addr} {d : Nat} {m : List α} (hx : a.eval x = .slice B m.length d) (hm : IsRow enc k w B d m)
    (h63 : l.length + m.length ≤ maxLen) (hbytes : (l.length + m.length) * bytes ≤ 140737488355328) (hbase : base ≤ w.heap.size)
    (h : ∀ A' c' w', Owns enc k base e w' A' c' (l ++ m) → w.grownBy w' (blockOf A) → (blockOf A' = blockOf A ∨ blockOf A' = some w.heap.size) → wpList P ops Q rest (a.put o.dst (.slice A' (l.length + m.length) c')) w') : wpList P ops Q (o :: rest) a w :=
  wpList_plain hgd fun _ hK => wp_append_row2 s x t t2 ho hk hk0 h1c i z bytes ht ht2 hi hz hsize hby hzs hs hown hx hm h63 hbytes hbase fun A' c' w' h2 h3 h4 => hK _ _ (h A' c' w' h2 h3 h4)
theorem step_append_row2 {w : World} {ops : Array Oper} {o : Oper} {a : Act} {K : Act → World → Prop} {Q : Exit → Act → World → Prop} {E : Prop} (hgd : o.guard = none) (s x : Operand) (t t2 : TypeId)
    (ho : o.op = .call { callee := .builtin .append, args := #[s, x], argTypes := #[t, t2] })
    (hk : ∀ x, (enc x).length = k) (hk0 : 0 < k) (h1c : ∀ x, ∀ u ∈ enc x, u.oneCell' = true) (i : TypeInfo) (z : Value) (bytes : Nat) (ht : P.underlying t = some (.slice e)) (ht2 : P.underlying t2 = some (.slice e)) (hi : P.info? e = some i) (hz : i.zero = some z)
    (hsize : i.size = k) (hby : i.bytes = bytes) (hzs : z.cells.size = k) {A : Option Addr} {c : Nat} {l : List α} (hs : a.eval s = .slice A l.length c) (hown : Owns enc k base e w A c l) {B : Option Addr} {d : Nat} {m : List α} (hx : a.eval x = .slice B m.length d) (hm : IsRow enc k w B d m)
    (h63 : l.length + m.length ≤ maxLen) (hbytes : (l.length + m.length) * bytes ≤ 140737488355328) (hbase : base ≤ w.heap.size)
    (h : ∀ A' c' w', Owns enc k base e w' A' c' (l ++ m) → w.grownBy w' (blockOf A) → (blockOf A' = blockOf A ∨ blockOf A' = some w.heap.size) → K (a.put o.dst (.slice A' (l.length + m.length) c')) w') :
    if Region.wanted o (yielded ops a.tmps) = true then Oper.wp P o a w K Q else E := by
  have hw : Region.wanted o (yielded ops a.tmps) = true := by simp [Region.wanted, hgd]
  rw [if_pos hw]
  exact wp_append_row2 s x t t2 ho hk hk0 h1c i z bytes ht ht2 hi hz hsize hby hzs hs hown hx hm h63 hbytes hbase h
end
end Go.Proofs.YtpbgimdbhgahkaaGreat
