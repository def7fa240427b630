/- Rows that the call makes: make with a variable size, copy, a store into an element; rows as the sort reads them. -/
import Derived.Test.YtdcncalcncomoaaBase
import Derived.Laws.CopyRow
import Derived.Laws.MakeOwn
import Derived.Test.YtdcncalcncomoaaCalLay
namespace Go.Proofs.Ytdcncalcncomoaa
open Go.RowKit Go.Sort
set_option linter.unusedVariables false

section
variable {P : Program} {α : Type} {enc : α → List Value} {k : Nat} {base : Nat} {e : TypeId}
theorem run_make_owns (hk : ∀ x, (enc x).length = k) (z0 : α) (t : TypeId) (i : TypeInfo) (z : Value) (bytes : Nat) (ht : P.underlying t = some (.slice e)) (hi : P.info? e = some i) (hz : i.zero = some z) (hsize : i.size = k) (hby : i.bytes = bytes) (hzc : z.cells.toList = enc z0) (hk0 : 0 < k)
    (w : World) (n c : Nat) (hnc : n ≤ c) (hbytes : bytes * c ≤ 281474976710656) (h63 : c ≤ maxLen) (hb : base ≤ w.heap.size) :
    ∃ cs, (Instr.makeSlice t (.int .i64 (n : Int)) (.int .i64 (c : Int))).run P w = .ok (.slice (some ⟨w.heap.size, 0, none⟩) n c) (w.alloc (.cells cs e)) ∧ Owns enc k base e (w.alloc (.cells cs e)) (some ⟨w.heap.size, 0, none⟩) c (List.replicate n z0) := by
  have hb' : (i.bytes : Int) * (c : Int) ≤ 281474976710656 := by
    rw [hby]
    have h : ((bytes * c : Nat) : Int) ≤ 281474976710656 := by omega
    rwa [Int.natCast_mul] at h
  have hr := run_make (P := P) w t e i z ht hi hz .i64 .i64 n c (by omega) (by omega) hb' (by unfold maxLen at h63; omega)
  simp only [Int.toNat_natCast, hsize] at hr
  refine ⟨_, hr, ?_⟩
  have hzl : z.cells.size = k := by rw [← Array.length_toList, hzc, hk]
  have hsz : (madeCells z.cells (c * k)).size = c * k := size_madeCells _ _
  refine ⟨?_, .inr ⟨w.heap.size, c, madeCells z.cells (c * k), by rw [List.length_replicate], hb, heap_alloc_new w _, by rw [List.length_replicate]; exact hnc, h63, hsz, ?_⟩⟩
  · rw [flat_length hk]
  · rw [List.length_replicate]
    have hlen : n * k ≤ c * k := Nat.mul_le_mul_right _ hnc
    apply List.ext_getElem?
    intro j
    by_cases hj : j < n * k
    · rw [List.getElem?_take, if_pos hj]
      have hm : j % k < k := Nat.mod_lt _ hk0
      have hi' : j / k < (List.replicate n z0).length := by rw [List.length_replicate]; exact Nat.div_lt_of_lt_mul (by rw [Nat.mul_comm]; exact hj)
      have h1 := flat_get hk (List.replicate n z0) (j / k) hi' (j % k) hm
      rw [Nat.mul_comm, Nat.div_add_mod] at h1
      rw [h1, List.getElem_replicate, ← hzc]
      have hjc : j < c * k := by omega
      simp [madeCells, hjc, hzl, hm]
    · rw [List.getElem?_eq_none (by rw [List.length_take]; omega), List.getElem?_eq_none (by rw [flat_length hk, List.length_replicate]; omega)]
theorem run_copy_k (w : World) (dT sT ty elem : TypeId) (g o dLen dCap : Nat) (a : Addr) (sLen sCap : Nat) (cur : Array Value) (t : TypeId) (cs : List Value)
    (hu : P.underlying dT = some (.slice elem)) (hs : (P.info? elem).map (·.size) = some k)
    (hg : w.heap[g]? = some (.cells cur t (0, 0))) (hn : cs.length = Nat.min sLen dLen * k)
    (hsrc : ∀ j v, cs[j]? = some v → w.cell? (a.add j) = some v) (hfit : o + cs.length ≤ cur.size) (h1 : ∀ v ∈ cs, v.oneCell' = true) :
    (Builtin.copy_ #[dT, sT] ty #[.slice (some ⟨g, o, none⟩) dLen dCap, .slice (some a) sLen sCap]).run P w =
      .ok (goInt (Nat.min sLen dLen)) (w.setRow g (cur.toList.take o ++ cs ++ cur.toList.drop (o + cs.length)).toArray) := by
  have hl := run_loadCells_list (P := P) w a cs hsrc
  have hst := run_storeCells_at P g o t cs 0 cur w hg (by simpa using hfit) h1
  cases hq : P.info? elem with
  | none => simp [hq] at hs
  | some i =>
    have hi : i.size = k := by simpa [hq] using hs
    simp [Builtin.copy_, run_underlying hu, Builtin.lenOf, Builtin.firstCells, sizeOf, typeInfo, hq, hi, ← hn, hl, hst]
/-- 'copy(d, s)' into a row of the call's own that is as long. -/
theorem run_copy_owns (hk : ∀ x, (enc x).length = k) (hk0 : 0 < k) (h1c : ∀ x, ∀ u ∈ enc x, u.oneCell' = true) (dT sT ty : TypeId) (hu : P.underlying dT = some (.slice e)) (hs : (P.info? e).map (·.size) = some k) {w : World} {A : Option Addr} {c : Nat} {l : List α} (hown : Owns enc k base e w A c l)
    {B : Option Addr} {d : Nat} {m : List α} (hm : IsRow enc k w B d m) (hlen : m.length = l.length) :
    ∃ w', (Builtin.copy_ #[dT, sT] ty #[.slice A l.length c, .slice B m.length d]).run P w = .ok (goInt m.length) w' ∧ Owns enc k base e w' A c m ∧ w.grownBy w' (blockOf A) := by
  by_cases h0 : m = []
  · subst h0
    have hl0 : l = [] := List.eq_nil_of_length_eq_zero hlen.symm
    subst hl0
    refine ⟨w, ?_, hown, World.grownBy.refl _ _⟩
    obtain ⟨i, hq, -⟩ := Option.map_eq_some_iff.1 hs
    cases A <;> cases B <;> simp [Builtin.copy_, run_underlying hu, Builtin.lenOf, Builtin.firstCells, sizeOf, typeInfo, hq, storeCells, loadCells, loadCellsFrom]
  · have hmpos : 0 < m.length := List.length_pos_iff.2 h0
    obtain ⟨g2, off2, rfl, hr⟩ := hm.at_ hmpos
    obtain ⟨h1, h2⟩ := hown
    rcases h2 with ⟨_, hn0⟩ | ⟨g, cap, cur, hv, hb, hg, hnc, hcm, hcs, htake⟩
    · omega
    · simp only [Value.slice.injEq, true_and] at hv
      obtain ⟨rfl, rfl⟩ := hv
      have hfl := flat_length hk m
      have hfit : 0 + (m.flatMap enc).length ≤ cur.size := by
        rw [hfl, hcs, hlen, Nat.zero_add]; exact Nat.mul_le_mul_right _ hnc
      have hrun := run_copy_k (P := P) (k := k) w dT sT ty e g 0 l.length c ⟨g2, off2, none⟩ m.length d cur e (m.flatMap enc) hu hs hg (by rw [hfl, hlen]; congr 1; exact (Nat.min_self _).symm) (hr.news hk hk0) hfit
        (fun u hu => by simp only [List.mem_flatMap] at hu; obtain ⟨x, _, hx⟩ := hu; exact h1c x u hx)
      rw [show Nat.min m.length l.length = m.length from by rw [hlen]; exact Nat.min_self _] at hrun
      refine ⟨_, hrun, ⟨hfl, .inr ⟨g, c, _, rfl, hb, setRow_heap w g cur _ e _ hg, by rw [hlen]; exact hnc, hcm, ?_, ?_⟩⟩, ?_⟩
      · have hfit' : (m.flatMap enc).length ≤ cur.size := by simpa using hfit
        simp only [List.take_zero, List.nil_append, Nat.zero_add, List.size_toArray, List.length_append, List.length_drop, Array.length_toList]
        omega
      · simp only [List.take_zero, List.nil_append, Nat.zero_add]
        rw [← hfl, List.take_left]
      · exact ⟨rfl, rfl, rfl, by simp [World.setRow], fun j hj hne => setRow_other w g j _ (fun e => hne (by simp [blockOf, e]))⟩
theorem wpList_make_owns (w : World) {ops : Array Oper} {rest : List Oper} {o : Oper} {a : Act} {Q : Exit → Act → World → Prop}
    (hg : o.guard = none) (l c : Operand) (t : TypeId) (hop : o.op = Op.makeSlice t l c) (hk : ∀ x, (enc x).length = k) (z0 : α) (i : TypeInfo) (z : Value) (bytes : Nat) (ht : P.underlying t = some (.slice e)) (hi : P.info? e = some i) (hz : i.zero = some z) (hsize : i.size = k) (hby : i.bytes = bytes) (hzc : z.cells.toList = enc z0) (hk0 : 0 < k)
    (n cp : Nat) (hl : a.eval l = .int .i64 (n : Int)) (hc : a.eval c = .int .i64 (cp : Int)) (hnc : n ≤ cp) (hbytes : bytes * cp ≤ 281474976710656) (h63 : cp ≤ maxLen) (hb : base ≤ w.heap.size)
    (hK : ∀ cs, Owns enc k base e (w.alloc (.cells cs e)) (some ⟨w.heap.size, 0, none⟩) cp (List.replicate n z0) → wpList P ops Q rest (a.put o.dst (.slice (some ⟨w.heap.size, 0, none⟩) n cp)) (w.alloc (.cells cs e))) :
    wpList P ops Q (o :: rest) a w := by
  refine wpList_plain hg fun K hK' => ?_
  obtain ⟨cs, hrun, hown⟩ := run_make_owns (P := P) hk z0 t i z bytes ht hi hz hsize hby hzc hk0 w n cp hnc hbytes h63 hb
  unfold Oper.wp
  simp [execOp, hop, hl, hc, hrun, Result.andThen]
  exact hK' _ _ (hK cs hown)
theorem wpList_copy_owns {w : World} {ops : Array Oper} {rest : List Oper} {o : Oper} {a : Act} {Q : Exit → Act → World → Prop} (hgd : o.guard = none) (d s : Operand) (dT sT : TypeId)
    (ho : o.op = .call { callee := .builtin .copy, args := #[d, s], argTypes := #[dT, sT] }) (hk : ∀ x, (enc x).length = k) (hk0 : 0 < k) (h1c : ∀ x, ∀ u ∈ enc x, u.oneCell' = true) (hu : P.underlying dT = some (.slice e)) (hs : (P.info? e).map (·.size) = some k)
    {A : Option Addr} {c : Nat} {l : List α} (hd : a.eval d = .slice A l.length c) (hown : Owns enc k base e w A c l) {B : Option Addr} {dd : Nat} {m : List α} (hs2 : a.eval s = .slice B m.length dd) (hm : IsRow enc k w B dd m) (hlen : m.length = l.length)
    (h : ∀ w', Owns enc k base e w' A c m → w.grownBy w' (blockOf A) → wpList P ops Q rest (a.put o.dst (goInt m.length)) w') : wpList P ops Q (o :: rest) a w := by
  refine wpList_plain hgd fun K hK => ?_
  obtain ⟨w', hrun, h2, h3⟩ := run_copy_owns (P := P) hk hk0 h1c dT sT o.type hu hs hown hm hlen
  unfold Oper.wp
  simp [execOp, ho, resolve, invoke, builtin, hd, hs2, hrun, Result.andThen]
  exact hK _ _ (h w' h2 h3)
end

theorem row_one (W : World) (x y : Int) (t : TypeId) : RowAt encV 2 (W.alloc (.cells #[.int .i64 x, .int .i64 y] t)) W.heap.size 0 [(x, y)] := by
  refine ⟨fun i hi j u hu => ?_, inferInstance⟩
  obtain rfl : i = 0 := by simpa using hi
  match j, hu with
  | 0, hu => simp [encV] at hu; subst hu; simp
  | 1, hu => simp [encV] at hu; subst hu; simp
  | j + 2, hu => simp [encV] at hu
theorem isRow_one (W : World) (x y : Int) (t : TypeId) : IsRow encV 2 (W.alloc (.cells #[.int .i64 x, .int .i64 y] t)) (some ⟨W.heap.size, 0, none⟩) 1 [(x, y)] := ⟨(by intro h; cases h), .inr ⟨_, 0, rfl, row_one W x y t⟩⟩
theorem isRow_at (W : World) (g : Nat) (x y : Int) (t : TypeId) (hg : W.heap.size = g) : IsRow encV 2 (W.alloc (.cells #[.int .i64 x, .int .i64 y] t)) (some ⟨g, 0, none⟩) 1 [(x, y)] := by subst hg; exact isRow_one W x y t
/-- 's[i][1] = y' in a row of the call's own. -/
theorem Owns.set1 {base : Nat} {e : TypeId} {w : World} {c g : Nat} {l : List (Int × Int)} (h : Owns encV 2 base e w (some ⟨g, 0, none⟩) c l) (i : Nat) (hi : i < l.length) (y : Int) :
    Owns encV 2 base e (w.setCell ⟨g, i * 2 + 1, none⟩ (.int .i64 y)) (some ⟨g, 0, none⟩) c (l.set i (l[i].1, y)) ∧ w.grownBy (w.setCell ⟨g, i * 2 + 1, none⟩ (.int .i64 y)) (some g) := by
  obtain ⟨h1, h2⟩ := World.ownsRow.stored h (i * 2 + 1) (.int .i64 y)
  refine ⟨?_, h2⟩
  unfold Owns
  rw [List.length_set]
  have e1 : (l.flatMap encV).set (i * 2 + 1) (.int .i64 y) = (l.set i (l[i].1, y)).flatMap encV := by
    apply List.ext_getElem?
    intro j
    by_cases hj : j < l.length * 2
    · have hj2 : j / 2 < l.length := by omega
      have hm : j % 2 < 2 := Nat.mod_lt _ (by omega)
      have hb := flat_get encV_len (l.set i (l[i].1, y)) (j / 2) (by rw [List.length_set]; exact hj2) (j % 2) hm
      have ha := flat_get encV_len l (j / 2) hj2 (j % 2) hm
      rw [show j / 2 * 2 + j % 2 = j from by omega] at ha hb
      rw [hb, List.getElem?_set]
      by_cases e : i * 2 + 1 = j
      · subst e
        rw [if_pos rfl, if_pos (by rw [flat_length encV_len]; omega)]
        have e2 : (i * 2 + 1) / 2 = i := by omega
        have e3 : (i * 2 + 1) % 2 = 1 := by omega
        simp [e2, e3, encV]
      · rw [if_neg e, ha]
        by_cases e4 : j / 2 = i
        · have e5 : j % 2 = 0 := by omega
          simp [e4, e5, encV]
        · rw [List.getElem_set_ne (by omega)]
    · rw [List.getElem?_eq_none (by rw [List.length_set, flat_length encV_len]; omega), List.getElem?_eq_none (by rw [flat_length encV_len, List.length_set]; omega)]
  rw [← e1]; exact h1
theorem Owns.at0 {α : Type} {enc : α → List Value} {k base : Nat} {e : TypeId} {w : World} {A : Option Addr} {c : Nat} {l : List α} (h : Owns enc k base e w A c l) (hn : 0 < l.length) : ∃ g, A = some ⟨g, 0, none⟩ ∧ base ≤ g ∧ g < w.heap.size := by
  obtain ⟨g, cap, hv, hb, hlt⟩ := World.ownsRow.form h hn
  simp only [Value.slice.injEq, true_and] at hv
  exact ⟨g, hv.1, hb, hlt⟩

section
variable {α : Type} {enc : α → List Value} {k : Nat} {w w' : World} {g off c : Nat} {l : List α}
theorem Live.holds [Inhabited α] (hk : ∀ x, (enc x).length = k) (hk0 : 0 < k) (h : Live enc k w g off l) : HoldsK enc k w g off l.toArray := by
  intro j hj
  rw [size_flatK] at hj
  have hj' : j < l.length * k := by simpa using hj
  have hi : j / k < l.length := Nat.div_lt_of_lt_mul (by rw [Nat.mul_comm]; exact hj')
  rw [get_flatK _ _ _ _ hj]
  refine ⟨?_, h.free j hj'⟩
  have hm : j % k < (enc l[j / k]).length := by rw [hk]; exact Nat.mod_lt _ hk0
  have := h.row.cells (j / k) hi (j % k) ((enc l[j / k])[j % k]) (List.getElem?_eq_getElem hm)
  rw [Nat.add_assoc, Nat.mul_comm, Nat.div_add_mod] at this
  rw [this]
  have e1 : l.toArray[j / k]! = l[j / k] := by simp [hi]
  rw [e1]
  simp [hm]
theorem live_of_holds [Inhabited α] (hk : ∀ x, (enc x).length = k) (hk0 : 0 < k) (hg : g < w.heap.size) (h : HoldsK enc k w g off l.toArray) : Live enc k w g off l := by
  refine ⟨⟨fun i hi j u hu => ?_, ⟨⟨hg⟩⟩⟩, fun j hj => ?_⟩
  · have hj : j < k := by
      have := (List.getElem?_eq_some_iff.1 hu).1
      rwa [hk] at this
    have := (HoldsK.cell h (i := i) (c := j) (by simpa using hi) hj).1
    rw [this]
    have e1 : l.toArray[i]! = l[i] := by simp [hi]
    rw [e1]
    obtain ⟨h1, h2⟩ := List.getElem?_eq_some_iff.1 hu
    simp [h1, h2]
  · exact (h j (by rw [size_flatK]; simpa using hj)).2
end
theorem Owns.live0 {α : Type} {enc : α → List Value} {k base : Nat} {e : TypeId} {w : World} {g c : Nat} {l : List α} (hk : ∀ x, (enc x).length = k) (h : Owns enc k base e w (some ⟨g, 0, none⟩) c l) : base ≤ g ∧ Live enc k w g 0 l := by
  by_cases h0 : 0 < l.length
  · obtain ⟨g', e, hb, hL⟩ := h.live hk h0
    simp only [Option.some.injEq, Addr.mk.injEq, and_true] at e
    subst e
    exact ⟨hb, hL⟩
  · obtain rfl : l = [] := List.eq_nil_of_length_eq_zero (by omega)
    obtain ⟨h1, h2⟩ := h
    rcases h2 with ⟨e, _⟩ | ⟨g', cap, cur, hv, hb, hg, _⟩
    · simp at e
    · simp only [Value.slice.injEq, Option.some.injEq, Addr.mk.injEq, and_true, true_and] at hv
      obtain ⟨rfl, rfl⟩ := hv
      refine ⟨hb, ⟨⟨by intro i hi; simp at hi, ⟨⟨?_⟩⟩⟩, by intro j hj; simp at hj⟩⟩
      rcases Nat.lt_or_ge g w.heap.size with hlt | hge
      · exact hlt
      · rw [Array.getElem?_eq_none hge] at hg; cases hg
theorem IsRow.setOther {α : Type} {enc : α → List Value} {k : Nat} {w : World} {A : Option Addr} {c : Nat} {l : List α} (h : IsRow enc k w A c l) (g j : Nat) (u : Value) (hne : ∀ b, blockOf A = some b → b ≠ g) : IsRow enc k (w.setCell ⟨g, j, none⟩ u) A c l := by
  refine ⟨h.1, ?_⟩
  rcases h.2 with h | ⟨b, off, rfl, hr⟩
  · exact .inl h
  · refine .inr ⟨b, off, rfl, fun i hi t v hv => ?_, ?_⟩
    · have hb := hne b rfl
      rw [World.cell?_setCell_other _ _ _ _ (by intro e; injection e with e1; exact hb e1.symm)]
      exact hr.cells i hi t v hv
    · have := hr.there; exact inferInstance
/-- Worlds of the sort's: only block g has turned. -/
theorem sortWorld_grown {α : Type} [Inhabited α] (enc : α → List Value) (k : Nat) (w : World) (g off n : Nat) (d : Array α) (os : Array Obj) : w.grownBy (sortWorldK enc k w g off n d os) (some g) := by
  refine ⟨rfl, rfl, rfl, ?_, fun i hi hne => ?_⟩
  · simp [sortWorldK, grow, putRowK, putRow, mapBlock, Sort.ahead]
  · have hne' : i ≠ g := fun e => hne (by rw [e])
    simp only [sortWorldK, grow, putRowK, putRow, mapBlock, Sort.ahead]
    rw [Array.getElem?_append_left (by simpa using hi)]
    simp [Array.getElem?_modify, Ne.symm hne']
end Go.Proofs.Ytdcncalcncomoaa
