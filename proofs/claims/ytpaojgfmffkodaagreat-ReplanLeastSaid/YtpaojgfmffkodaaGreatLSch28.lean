/- Layer 52: calendars that are always open; the example of the document, as values. -/
import Derived.Test.YtpaojgfmffkodaaGreatLSch26
import Derived.Test.YtpaojgfmffkodaaGreatLCalPlain3
namespace Go.Proofs.YtpaojgfmffkodaaGreat
set_option linter.unusedVariables false
set_option linter.unusedSimpArgs false
open Go.RowKit Go.Sort
theorem cnt_all {f : Int → Bool} (h : ∀ t, f t = true) (a : Int) : ∀ n, cnt f a n = n
  | 0 => rfl
  | n + 1 => by
    show cnt f a n + (if f (a + n) = true then 1 else 0) = _
    rw [cnt_all h a n, h, if_pos rfl]; omega
section
variable {P : Int}
theorem openI_always (hP : 1 ≤ P) (t : Int) : openI P [(0, P)] [] t = true := by
  unfold openI
  rw [inI_cons, inI_nil, inI_nil]
  have h1 := Int.emod_nonneg t (show P ≠ 0 by omega)
  have h2 := Int.emod_lt_of_pos t (show 0 < P by omega)
  simp; omega
theorem valid_always (hP : 1 ≤ P) (hP2 : P ≤ 10000) : validB P [(0, P)] [] = true := by
  unfold validB spansB
  rw [show ascI P (-1) [(0, P)] = true from ascI_cons.2 ⟨by show (-1 : Int) < 0; omega, by show (0 : Int) < P; omega, Int.le_refl _, rfl⟩]
  simp [ascI]; omega
theorem finish_always (hP : 1 ≤ P) (hP2 : P ≤ 10000) {t k : Int} (h0 : 0 ≤ t) (k0 : 0 ≤ k) (h1 : t + k ≤ 1000000) : finishV P [(0, P)] [] t k = (t + k, 0) := by
  rw [finishV_eq (valid_always hP hP2) (timeB_iff.2 ⟨h0, by omega⟩) (timeB_iff.2 ⟨k0, by omega⟩)]
  refine found_at (by omega) (by omega) (fun i hi => ?_) ?_
  · show decide (k ≤ cnt _ t i) = false
    rw [cnt_all (openI_always hP)]; simp; omega
  · show decide (k ≤ cnt _ t _) = true
    rw [cnt_all (openI_always hP)]; simp; omega
theorem work_always (hP : 1 ≤ P) (hP2 : P ≤ 10000) {a b : Int} (h0 : 0 ≤ a) (h1 : a ≤ b) (h2 : b ≤ 1000000) : workV P [(0, P)] [] a b = (b - a, 0) := by
  rw [workV_eq (valid_always hP hP2) (by unfold checkB; simp; omega), cnt_all (openI_always hP)]
  congr 1; omega
theorem open_always (hP : 1 ≤ P) (hP2 : P ≤ 10000) {t : Int} (h0 : 0 ≤ t) (h1 : t ≤ 1000000) : openV P [(0, P)] [] t = true := by
  unfold openV
  rw [valid_always hP hP2, timeB_iff.2 ⟨h0, h1⟩, openI_always hP]; rfl
end
theorem cnt_any (L : List JobR) (n : Nat) : ∀ l : List SlotR, (List.range n).countP (fun o : Nat => l.any fun x => ordAt L x == (o : Int)) ≤ l.length
  | [] => by rw [List.countP_eq_zero.2 (fun _ _ => by simp)]; exact Nat.zero_le _
  | x :: l => by
    have ih := cnt_any L n l
    rw [List.length_cons]
    by_cases h0 : 0 ≤ ordAt L x
    · obtain ⟨i, hi⟩ : ∃ i : Nat, ordAt L x = i := ⟨(ordAt L x).toNat, by omega⟩
      have e := cnt_set (fun o : Nat => l.any fun x => ordAt L x == (o : Int)) i n
      have e2 : (fun o : Nat => (x :: l).any fun x => ordAt L x == (o : Int)) = fun o : Nat => (l.any fun x => ordAt L x == (o : Int)) || ((i : Int) == (o : Int)) := by
        funext o; rw [List.any_cons, hi, Bool.or_comm]
      rw [e2, e]
      split <;> omega
    · have e2 : (fun o : Nat => (x :: l).any fun x => ordAt L x == (o : Int)) = fun o : Nat => l.any fun x => ordAt L x == (o : Int) := by
        funext o
        rw [List.any_cons, show (ordAt L x == (o : Int)) = false from by simp; omega, Bool.false_or]
      rw [e2]; omega
set_option maxRecDepth 100000 in
theorem openN_le (L : List JobR) (t : Int) (l : List SlotR) : openN L t l ≤ l.length := by
  unfold openN openTo
  have h1 := cnt_any L 1001 l
  have h2 : (List.range 1001).countP (fun o => begunB L t l o && unfinB L t l o) ≤ (List.range 1001).countP (fun o : Nat => l.any fun x => ordAt L x == (o : Int)) := by
    refine List.countP_mono_left fun o _ h => ?_
    rw [Bool.and_eq_true] at h
    unfold begunB at h
    obtain ⟨x, hx, hb⟩ := List.any_eq_true.1 h.1
    rw [Bool.and_eq_true] at hb
    exact List.any_eq_true.2 ⟨x, hx, hb.1⟩
  omega
theorem firstFit_hit {s : ShopR} {L : List JobR} {l : List SlotR} {jb m t n e : Int} {r : List Int} (h1 : nextAt s m t = (n, 0)) (h2 : finishAt s m n (jobAt L jb).dur = (e, 0)) (h3 : (validV s L (l ++ [⟨jb, m, n, e⟩])).2 = 0) : firstFit s L l jb m (t :: r) = some ⟨jb, m, n, e⟩ := by
  unfold firstFit
  simp only [h1, h2, h3, if_true]
section
variable (A : Option Addr) (a : Nat) (A1 : Option Addr) (a1 : Nat) (B : Option Addr) (b : Nat) (B1 : Option Addr) (b1 : Nat) (B2 : Option Addr) (b2 : Nat) (J1 : Option Addr) (j1 : Nat) (J2 : Option Addr) (j2 : Nat)
theorem begin_one {s : ShopR} {L : List JobR} {jb m b t : Int} {x : SlotR} (h1 : x.mach = m) (h2 : finishAt s m x.stop (setupAt s L x.job jb) = (t, 0)) : beginV s L jb m b [x] = some (imax b t) := by
  unfold beginV
  rw [if_pos h1, h2, if_pos rfl]
  unfold beginV
  rfl
theorem onV_hit {s : ShopR} {L : List JobR} {l : List SlotR} {jb m b : Int} {ts : List Int} (h1 : beginV s L jb m (jobAt L jb).rel l = some b) (h2 : sortI (b :: endsOf b l) = ts) : onV s L l jb m = firstFit s L l jb m ts := by
  unfold onV
  rw [h1, ← h2]
end
end Go.Proofs.YtpaojgfmffkodaaGreat
/- Layer 52: the example of the document holds: awake. (The memory's chains were printed by a program, gensch28.py.) -/
namespace Go.Proofs.YtpaojgfmffkodaaGreat
set_option linter.unusedVariables false
set_option linter.unusedSimpArgs false
open Go.RowKit Go.Sort
attribute [local go_sem ↓] Go.wp_at_zero Go.wp_at_succ
theorem isRow_lit {α : Type} {enc : α → List Value} {k : Nat} (hk : ∀ x, (enc x).length = k) (W : World) (cs : Array Value) (t : TypeId) (g n : Nat) (l : List α) (h : cs.toList = l.flatMap enc) (hn : n = l.length) (hm : l.length ≤ 1000) (hg : W.heap.size = g) : IsRow enc k (W.alloc (.cells cs t)) (some ⟨g, 0, none⟩) n l := by
  subst hg hn
  have h1 := World.ownsRow_lit (base := 0) (e := t) (size := k) W cs l.length (Nat.zero_le _) (by unfold maxLen; omega) (by rw [← Array.length_toList, h, flat_length hk])
  have h2 : Owns enc k 0 t (W.alloc (.cells cs t)) (some ⟨W.heap.size, 0, none⟩) l.length l := by
    unfold Owns; rw [← h]; exact h1
  exact h2.isRow hk
theorem row_since {α : Type} {enc : α → List Value} {k : Nat} {w w' : World} {A : Option Addr} {c : Nat} {l : List α} (h : IsRow enc k w A c l) (hs : SinceOf w w') : IsRow enc k w' A c l := h.of hs
theorem encC_len (x : CalR) : (encC x).length = 3 := rfl
theorem encR_len (x : RowR) : (encR x).length = 1 := rfl
theorem equalIn_slot4 (w : World) (a0 a1 a2 a3 b0 b1 b2 b3 : Int) : (Op.equalIn 10000 76 (costV a0 a1 a2 a3) (costV b0 b1 b2 b3)).run Tryz.prog w = .ok (eqC a0 a1 a2 a3 b0 b1 b2 b3) w := by
  have u3 := Tryz.underlying3
  have a3' := Tryz.isAgg3
  have z3 := Tryz.sizeOf3
  have hS : Tryz.prog.underlying 76 = some (.struct (Tryz.prog.fieldsOf 76)) := by kernel_rfl
  have hp : Tryz.prog.stoodInHeld 76 = false := by kernel_rfl
  rw [show (10000 : Nat) = 9999 + 1 from rfl, run_equalIn_agg w 9999 76 _ _ hS hp]
  simp only [Program.fieldsOf, Tryz.underlying76]
  unfold eqC
  go_simp
  by_cases h1 : a0 = b0 <;> by_cases h2 : a1 = b1 <;> by_cases h3 : a2 = b2 <;> by_cases h4 : a3 = b3 <;> simp [h1, h2, h3, h4]
@[go_sem ↓] theorem eql_slot4 (w : World) (a0 a1 a2 a3 b0 b1 b2 b3 : Int) : (binOp .eql 76 (costV a0 a1 a2 a3) (costV b0 b1 b2 b3)).run Tryz.prog w = .ok (.bool (eqC a0 a1 a2 a3 b0 b1 b2 b3)) w := by
  rw [run_eql_struct, equalIn_slot4]; rfl
@[go_sem ↓] theorem eqGuard_slot4 (w : World) (op : BinOp) (x y : Operand) (a0 a1 a2 a3 b0 b1 b2 b3 : Int) : (eqGuard op 76 x y (costV a0 a1 a2 a3) (costV b0 b1 b2 b3)).run Tryz.prog w = .ok () w :=
  run_eqGuard_agg w op _ x y _ _ (by kernel_rfl)
theorem equalIn_cost4 (w : World) (a0 a1 a2 a3 b0 b1 b2 b3 : Int) : (Op.equalIn 10000 155 (costV a0 a1 a2 a3) (costV b0 b1 b2 b3)).run Tryz.prog w = .ok (eqC a0 a1 a2 a3 b0 b1 b2 b3) w := by
  have u3 := Tryz.underlying3
  have a3' := Tryz.isAgg3
  have z3 := Tryz.sizeOf3
  have hS : Tryz.prog.underlying 155 = some (.struct (Tryz.prog.fieldsOf 155)) := by kernel_rfl
  have hp : Tryz.prog.stoodInHeld 155 = false := by kernel_rfl
  rw [show (10000 : Nat) = 9999 + 1 from rfl, run_equalIn_agg w 9999 155 _ _ hS hp]
  simp only [Program.fieldsOf, Tryz.underlying155]
  unfold eqC
  go_simp
  by_cases h1 : a0 = b0 <;> by_cases h2 : a1 = b1 <;> by_cases h3 : a2 = b2 <;> by_cases h4 : a3 = b3 <;> simp [h1, h2, h3, h4]
@[go_sem ↓] theorem eql_cost4 (w : World) (a0 a1 a2 a3 b0 b1 b2 b3 : Int) : (binOp .eql 155 (costV a0 a1 a2 a3) (costV b0 b1 b2 b3)).run Tryz.prog w = .ok (.bool (eqC a0 a1 a2 a3 b0 b1 b2 b3)) w := by
  rw [run_eql_struct, equalIn_cost4]; rfl
@[go_sem ↓] theorem eqGuard_cost4 (w : World) (op : BinOp) (x y : Operand) (a0 a1 a2 a3 b0 b1 b2 b3 : Int) : (eqGuard op 155 x y (costV a0 a1 a2 a3) (costV b0 b1 b2 b3)).run Tryz.prog w = .ok () w :=
  run_eqGuard_agg w op _ x y _ _ (by kernel_rfl)
end Go.Proofs.YtpaojgfmffkodaaGreat
