/- Rows that the call makes: make with a variable size, copy, a store into an element; rows as the sort reads them. -/
import Derived.Test.YtpaojgfmffkodaaGreatLCal2
import Derived.Laws.CopyRow
import Derived.Laws.MakeOwn
import Derived.Test.YtpaojgfmffkodaaGreatLCalLay
import Derived.Test.YtpaojgfmffkodaaGreatLCalPlain3
namespace Go.Proofs.YtpaojgfmffkodaaGreat
set_option linter.unusedVariables false
set_option linter.unusedSimpArgs false
open Go.RowKit Go.Sort
section
variable {P : Program} {α : Type} {enc : α → List Value} {k : Nat} {base : Nat} {e : TypeId}
theorem run_make_owns (hk : ∀ x, (enc x).length = k) (z0 : α) (t : TypeId) (i : TypeInfo) (z : Value) (bytes : Nat) (ht : P.underlying t = some (.slice e)) (hi : P.info? e = some i) (hz : i.zero = some z) (hsize : i.size = k) (hby : i.bytes = bytes) (hzc : z.cells.toList = enc z0) (hk0 : 0 < k)
    (w : World) (n c : Nat) (hnc : n ≤ c) (hbytes : bytes * c ≤ 281474976710656) (h63 : c ≤ maxLen) (hb : base ≤ w.heap.size) :
    ∃ cs, (Instr.makeSlice t (.int .i64 (n : Int)) (.int .i64 (c : Int))).run P w = .ok (.slice (some ⟨w.heap.size, 0, none⟩) n c) (w.alloc (.cells cs e)) ∧ Owns enc k base e (w.alloc (.cells cs e)) (some ⟨w.heap.size, 0, none⟩) c (List.replicate n z0) := by
  have hb' : (i.bytes : Int) * (c : Int) ≤ 281474976710656 := by
    rw [hby]
    have h : ((bytes * c : Nat) : Int) ≤ 281474976710656 := by omega
    rwa [Int.natCast_mul] at h
  have hr := run_make (P := P) w t e i z ht hi hz .i64 .i64 n c (by omega) (by omega) hb' (by unfold maxLen at h63; omega)
  simp only [Int.toNat_natCast, hsize] at hr
  refine ⟨_, hr, ?_⟩
  have hzl : z.cells.size = k := by rw [← Array.length_toList, hzc, hk]
  have hsz : (madeCells z.cells (c * k)).size = c * k := size_madeCells _ _
  refine ⟨?_, .inr ⟨w.heap.size, c, madeCells z.cells (c * k), by rw [List.length_replicate], hb, heap_alloc_new w _, by rw [List.length_replicate]; exact hnc, h63, hsz, ?_⟩⟩
  · rw [flat_length hk]
  · rw [List.length_replicate]
    have hlen : n * k ≤ c * k := Nat.mul_le_mul_right _ hnc
    apply List.ext_getElem?
    intro j
    by_cases hj : j < n * k
    · rw [List.getElem?_take, if_pos hj]
      have hm : j % k < k := Nat.mod_lt _ hk0
      have hi' : j / k < (List.replicate n z0).length := by rw [List.length_replicate]; exact Nat.div_lt_of_lt_mul (by rw [Nat.mul_comm]; exact hj)
      have h1 := flat_get hk (List.replicate n z0) (j / k) hi' (j % k) hm
      rw [Nat.mul_comm, Nat.div_add_mod] at h1
      rw [h1, List.getElem_replicate, ← hzc]
      have hjc : j < c * k := by omega
      simp [madeCells, hjc, hzl, hm]
    · rw [List.getElem?_eq_none (by rw [List.length_take]; omega), List.getElem?_eq_none (by rw [flat_length hk, List.length_replicate]; omega)]
theorem run_copy_k (w : World) (dT sT ty elem : TypeId) (g o dLen dCap : Nat) (a : Addr) (sLen sCap : Nat) (cur : Array Value) (t : TypeId) (cs : List Value)
    (hu : P.underlying dT = some (.slice elem)) (hs : (P.info? elem).map (·.size) = some k)
    (hg : w.heap[g]? = some (.cells cur t (0, 0))) (hn : cs.length = Nat.min sLen dLen * k)
    (hsrc : ∀ j v, cs[j]? = some v → w.cell? (a.add j) = some v) (hfit : o + cs.length ≤ cur.size) (h1 : ∀ v ∈ cs, v.oneCell' = true) :
    (Builtin.copy_ #[dT, sT] ty #[.slice (some ⟨g, o, none⟩) dLen dCap, .slice (some a) sLen sCap]).run P w =
      .ok (goInt (Nat.min sLen dLen)) (w.setRow g (cur.toList.take o ++ cs ++ cur.toList.drop (o + cs.length)).toArray) := by
  have hl := run_loadCells_list (P := P) w a cs hsrc
  have hst := run_storeCells_at P g o t cs 0 cur w hg (by simpa using hfit) h1
  cases hq : P.info? elem with
  | none => simp [hq] at hs
  | some i =>
    have hi : i.size = k := by simpa [hq] using hs
    simp [Builtin.copy_, run_underlying hu, Builtin.lenOf, Builtin.firstCells, sizeOf, typeInfo, hq, hi, ← hn, hl, hst]
theorem run_copy_owns (hk : ∀ x, (enc x).length = k) (hk0 : 0 < k) (h1c : ∀ x, ∀ u ∈ enc x, u.oneCell' = true) (dT sT ty : TypeId) (hu : P.underlying dT = some (.slice e)) (hs : (P.info? e).map (·.size) = some k) {w : World} {A : Option Addr} {c : Nat} {l : List α} (hown : Owns enc k base e w A c l)
    {B : Option Addr} {d : Nat} {m : List α} (hm : IsRow enc k w B d m) (hlen : m.length = l.length) :
    ∃ w', (Builtin.copy_ #[dT, sT] ty #[.slice A l.length c, .slice B m.length d]).run P w = .ok (goInt m.length) w' ∧ Owns enc k base e w' A c m ∧ w.grownBy w' (blockOf A) := by
  by_cases h0 : m = []
  · subst h0
    have hl0 : l = [] := List.eq_nil_of_length_eq_zero hlen.symm
    subst hl0
    refine ⟨w, ?_, hown, World.grownBy.refl _ _⟩
    obtain ⟨i, hq, -⟩ := Option.map_eq_some_iff.1 hs
    cases A <;> cases B <;> simp [Builtin.copy_, run_underlying hu, Builtin.lenOf, Builtin.firstCells, sizeOf, typeInfo, hq, storeCells, loadCells, loadCellsFrom]
  · have hmpos : 0 < m.length := List.length_pos_iff.2 h0
    obtain ⟨g2, off2, rfl, hr⟩ := hm.at_ hmpos
    obtain ⟨h1, h2⟩ := hown
    rcases h2 with ⟨_, hn0⟩ | ⟨g, cap, cur, hv, hb, hg, hnc, hcm, hcs, htake⟩
    · omega
    · simp only [Value.slice.injEq, true_and] at hv
      obtain ⟨rfl, rfl⟩ := hv
      have hfl := flat_length hk m
      have hfit : 0 + (m.flatMap enc).length ≤ cur.size := by
        rw [hfl, hcs, hlen, Nat.zero_add]; exact Nat.mul_le_mul_right _ hnc
      have hrun := run_copy_k (P := P) (k := k) w dT sT ty e g 0 l.length c ⟨g2, off2, none⟩ m.length d cur e (m.flatMap enc) hu hs hg (by rw [hfl, hlen]; congr 1; exact (Nat.min_self _).symm) (hr.news hk hk0) hfit
        (fun u hu => by simp only [List.mem_flatMap] at hu; obtain ⟨x, _, hx⟩ := hu; exact h1c x u hx)
      rw [show Nat.min m.length l.length = m.length from by rw [hlen]; exact Nat.min_self _] at hrun
      refine ⟨_, hrun, ⟨hfl, .inr ⟨g, c, _, rfl, hb, setRow_heap w g cur _ e _ hg, by rw [hlen]; exact hnc, hcm, ?_, ?_⟩⟩, ?_⟩
      · have hfit' : (m.flatMap enc).length ≤ cur.size := by simpa using hfit
        simp only [List.take_zero, List.nil_append, Nat.zero_add, List.size_toArray, List.length_append, List.length_drop, Array.length_toList]
        omega
      · simp only [List.take_zero, List.nil_append, Nat.zero_add]
        rw [← hfl, List.take_left]
      · exact ⟨rfl, rfl, rfl, by simp [World.setRow], fun j hj hne => setRow_other w g j _ (fun e => hne (by simp [blockOf, e]))⟩
theorem wpList_make_owns (w : World) {ops : Array Oper} {rest : List Oper} {o : Oper} {a : Act} {Q : Exit → Act → World → Prop}
    (hg : o.guard = none) (l c : Operand) (t : TypeId) (hop : o.op = Op.makeSlice t l c) (hk : ∀ x, (enc x).length = k) (z0 : α) (i : TypeInfo) (z : Value) (bytes : Nat) (ht : P.underlying t = some (.slice e)) (hi : P.info? e = some i) (hz : i.zero = some z) (hsize : i.size = k) (hby : i.bytes = bytes) (hzc : z.cells.toList = enc z0) (hk0 : 0 < k)
    (n cp : Nat) (hl : a.eval l = .int .i64 (n : Int)) (hc : a.eval c = .int .i64 (cp : Int)) (hnc : n ≤ cp) (hbytes : bytes * cp ≤ 281474976710656) (h63 : cp ≤ maxLen) (hb : base ≤ w.heap.size)
    (hK : ∀ cs, Owns enc k base e (w.alloc (.cells cs e)) (some ⟨w.heap.size, 0, none⟩) cp (List.replicate n z0) → wpList P ops Q rest (a.put o.dst (.slice (some ⟨w.heap.size, 0, none⟩) n cp)) (w.alloc (.cells cs e))) :
    wpList P ops Q (o :: rest) a w := by
  refine wpList_plain hg fun K hK' => ?_
  obtain ⟨cs, hrun, hown⟩ := run_make_owns (P := P) hk z0 t i z bytes ht hi hz hsize hby hzc hk0 w n cp hnc hbytes h63 hb
  unfold Oper.wp
  simp [execOp, hop, hl, hc, hrun, Result.andThen]
  exact hK' _ _ (hK cs hown)
end
theorem row_one (W : World) (x y : Int) (t : TypeId) : RowAt encV 2 (W.alloc (.cells #[.int .i64 x, .int .i64 y] t)) W.heap.size 0 [(x, y)] := by
  refine ⟨fun i hi j u hu => ?_, inferInstance⟩
  obtain rfl : i = 0 := by simpa using hi
  match j, hu with
  | 0, hu => simp [encV] at hu; subst hu; simp
  | 1, hu => simp [encV] at hu; subst hu; simp
  | j + 2, hu => simp [encV] at hu
theorem isRow_one (W : World) (x y : Int) (t : TypeId) : IsRow encV 2 (W.alloc (.cells #[.int .i64 x, .int .i64 y] t)) (some ⟨W.heap.size, 0, none⟩) 1 [(x, y)] := ⟨(by intro h; cases h), .inr ⟨_, 0, rfl, row_one W x y t⟩⟩
theorem Owns.set1 {base : Nat} {e : TypeId} {w : World} {c g : Nat} {l : List (Int × Int)} (h : Owns encV 2 base e w (some ⟨g, 0, none⟩) c l) (i : Nat) (hi : i < l.length) (y : Int) :
    Owns encV 2 base e (w.setCell ⟨g, i * 2 + 1, none⟩ (.int .i64 y)) (some ⟨g, 0, none⟩) c (l.set i (l[i].1, y)) ∧ w.grownBy (w.setCell ⟨g, i * 2 + 1, none⟩ (.int .i64 y)) (some g) := by
  obtain ⟨h1, h2⟩ := World.ownsRow.stored h (i * 2 + 1) (.int .i64 y)
  refine ⟨?_, h2⟩
  unfold Owns
  rw [List.length_set]
  have e1 : (l.flatMap encV).set (i * 2 + 1) (.int .i64 y) = (l.set i (l[i].1, y)).flatMap encV := by
    apply List.ext_getElem?
    intro j
    by_cases hj : j < l.length * 2
    · have hj2 : j / 2 < l.length := by omega
      have hm : j % 2 < 2 := Nat.mod_lt _ (by omega)
      have hb := flat_get encV_len (l.set i (l[i].1, y)) (j / 2) (by rw [List.length_set]; exact hj2) (j % 2) hm
      have ha := flat_get encV_len l (j / 2) hj2 (j % 2) hm
      rw [show j / 2 * 2 + j % 2 = j from by omega] at ha hb
      rw [hb, List.getElem?_set]
      by_cases e : i * 2 + 1 = j
      · subst e
        rw [if_pos rfl, if_pos (by rw [flat_length encV_len]; omega)]
        have e2 : (i * 2 + 1) / 2 = i := by omega
        have e3 : (i * 2 + 1) % 2 = 1 := by omega
        simp [e2, e3, encV]
      · rw [if_neg e, ha]
        by_cases e4 : j / 2 = i
        · have e5 : j % 2 = 0 := by omega
          simp [e4, e5, encV]
        · rw [List.getElem_set_ne (by omega)]
    · rw [List.getElem?_eq_none (by rw [List.length_set, flat_length encV_len]; omega), List.getElem?_eq_none (by rw [flat_length encV_len, List.length_set]; omega)]
  rw [← e1]; exact h1
theorem Owns.at0 {α : Type} {enc : α → List Value} {k base : Nat} {e : TypeId} {w : World} {A : Option Addr} {c : Nat} {l : List α} (h : Owns enc k base e w A c l) (hn : 0 < l.length) : ∃ g, A = some ⟨g, 0, none⟩ ∧ base ≤ g ∧ g < w.heap.size := by
  obtain ⟨g, cap, hv, hb, hlt⟩ := World.ownsRow.form h hn
  simp only [Value.slice.injEq, true_and] at hv
  exact ⟨g, hv.1, hb, hlt⟩
section
variable {α : Type} {enc : α → List Value} {k : Nat} {w w' : World} {g off c : Nat} {l : List α}
theorem Live.holds [Inhabited α] (hk : ∀ x, (enc x).length = k) (hk0 : 0 < k) (h : Live enc k w g off l) : HoldsK enc k w g off l.toArray := by
  intro j hj
  rw [size_flatK] at hj
  have hj' : j < l.length * k := by simpa using hj
  have hi : j / k < l.length := Nat.div_lt_of_lt_mul (by rw [Nat.mul_comm]; exact hj')
  rw [get_flatK _ _ _ _ hj]
  refine ⟨?_, h.free j hj'⟩
  have hm : j % k < (enc l[j / k]).length := by rw [hk]; exact Nat.mod_lt _ hk0
  have := h.row.cells (j / k) hi (j % k) ((enc l[j / k])[j % k]) (List.getElem?_eq_getElem hm)
  rw [Nat.add_assoc, Nat.mul_comm, Nat.div_add_mod] at this
  rw [this]
  have e1 : l.toArray[j / k]! = l[j / k] := by simp [hi]
  rw [e1]
  simp [hm]
theorem live_of_holds [Inhabited α] (hk : ∀ x, (enc x).length = k) (hk0 : 0 < k) (hg : g < w.heap.size) (h : HoldsK enc k w g off l.toArray) : Live enc k w g off l := by
  refine ⟨⟨fun i hi j u hu => ?_, ⟨⟨hg⟩⟩⟩, fun j hj => ?_⟩
  · have hj : j < k := by
      have := (List.getElem?_eq_some_iff.1 hu).1
      rwa [hk] at this
    have := (HoldsK.cell h (i := i) (c := j) (by simpa using hi) hj).1
    rw [this]
    have e1 : l.toArray[i]! = l[i] := by simp [hi]
    rw [e1]
    obtain ⟨h1, h2⟩ := List.getElem?_eq_some_iff.1 hu
    simp [h1, h2]
  · exact (h j (by rw [size_flatK]; simpa using hj)).2
end
theorem Owns.live0 {α : Type} {enc : α → List Value} {k base : Nat} {e : TypeId} {w : World} {g c : Nat} {l : List α} (hk : ∀ x, (enc x).length = k) (h : Owns enc k base e w (some ⟨g, 0, none⟩) c l) : base ≤ g ∧ Live enc k w g 0 l := by
  by_cases h0 : 0 < l.length
  · obtain ⟨g', e, hb, hL⟩ := h.live hk h0
    simp only [Option.some.injEq, Addr.mk.injEq, and_true] at e
    subst e
    exact ⟨hb, hL⟩
  · obtain rfl : l = [] := List.eq_nil_of_length_eq_zero (by omega)
    obtain ⟨h1, h2⟩ := h
    rcases h2 with ⟨e, _⟩ | ⟨g', cap, cur, hv, hb, hg, _⟩
    · simp at e
    · simp only [Value.slice.injEq, Option.some.injEq, Addr.mk.injEq, and_true, true_and] at hv
      obtain ⟨rfl, rfl⟩ := hv
      refine ⟨hb, ⟨⟨by intro i hi; simp at hi, ⟨⟨?_⟩⟩⟩, by intro j hj; simp at hj⟩⟩
      rcases Nat.lt_or_ge g w.heap.size with hlt | hge
      · exact hlt
      · rw [Array.getElem?_eq_none hge] at hg; cases hg
theorem IsRow.setOther {α : Type} {enc : α → List Value} {k : Nat} {w : World} {A : Option Addr} {c : Nat} {l : List α} (h : IsRow enc k w A c l) (g j : Nat) (u : Value) (hne : ∀ b, blockOf A = some b → b ≠ g) : IsRow enc k (w.setCell ⟨g, j, none⟩ u) A c l := by
  refine ⟨h.1, ?_⟩
  rcases h.2 with h | ⟨b, off, rfl, hr⟩
  · exact .inl h
  · refine .inr ⟨b, off, rfl, fun i hi t v hv => ?_, ?_⟩
    · have hb := hne b rfl
      rw [World.cell?_setCell_other _ _ _ _ (by intro e; injection e with e1; exact hb e1.symm)]
      exact hr.cells i hi t v hv
    · have := hr.there; exact inferInstance
theorem sortWorld_grown {α : Type} [Inhabited α] (enc : α → List Value) (k : Nat) (w : World) (g off n : Nat) (d : Array α) (os : Array Obj) : w.grownBy (sortWorldK enc k w g off n d os) (some g) := by
  refine ⟨rfl, rfl, rfl, ?_, fun i hi hne => ?_⟩
  · simp [sortWorldK, grow, putRowK, putRow, mapBlock, Sort.ahead]
  · have hne' : i ≠ g := fun e => hne (by rw [e])
    simp only [sortWorldK, grow, putRowK, putRow, mapBlock, Sort.ahead]
    rw [Array.getElem?_append_left (by simpa using hi)]
    simp [Array.getElem?_modify, Ne.symm hne']
end Go.Proofs.YtpaojgfmffkodaaGreat
/- Rows of intervals: Clone, Same, SortFunc; calendars: Equal, Few, Own. -/
namespace Go.Proofs.YtpaojgfmffkodaaGreat
set_option linter.unusedVariables false
set_option linter.unusedSimpArgs false
open Go.RowKit Go.Sort
theorem infoIv : (Tryz.prog.info? 80).map (fun i => (i.zero, i.size, i.bytes)) = some (some (.agg #[.int .i64 0, .int .i64 0]), 2, 16) := by kernel_rfl
abbrev OwnIvs (base : Nat) (w : World) (A : Option Addr) (c : Nat) (l : List (Int × Int)) : Prop := Owns encV 2 base 80 w A c l
@[go_sem] theorem eql_ivs_nil (w : World) (A : Option Addr) (n c n' c' : Nat) : (binOp .eql 81 (.slice A n c) (.slice none n' c')).run Tryz.prog w = .ok (.bool A.isNone) w :=
  Lib.run_eql_slice_nil w _ _ A n c n' c' Tryz.underlying81
theorem cloneIvs_any (A : Option Addr) (c : Nat) (l : List (Int × Int)) (w : World) (hl : IsIvs w A c l) (hn : l.length * 16 ≤ 140737488355328) :
    Calls Tryz.prog 65 #[.slice A l.length c] w fun e w' => ∃ A' c', e = .returned (.slice A' l.length c') ∧ OwnIvs w.heap.size w' A' c' l ∧ SinceOf w w' := by
  obtain ⟨i0, hi, hz0, hz1, hz2⟩ := info_parts infoIv
  cases A with
  | none =>
    obtain rfl : c = 0 := hl.1 rfl
    have hl0 : l = [] := by
      rcases hl.2 with h | ⟨g, off, h, _⟩
      · exact h
      · cases h
    subst hl0
    go_enter Tryz.func65, Tryz.ntmps65
    go_wp2_with fail
    go_returns
    exact ⟨none, 0, rfl, Owns.nil _ _ _ _ _, SinceOf.refl _⟩
  | some ad =>
    go_enter Tryz.func65, Tryz.ntmps65
    go_wp2_with (at_builtin; refine wpList_append_row rfl (.tmp 5) (.tmp 6) 81 rfl encV_len (by omega) encV_one i0 _ 16 Tryz.underlying81 hi hz0 hz1 hz2 rfl (l := []) (A := some ⟨w.heap.size, 0, none⟩) (c := 0) (base := w.heap.size) rfl (World.ownsRow_lit w #[] 0 (Nat.le_refl _) (Nat.zero_le _) rfl) (m := l) rfl (hl.of (SinceOf.alloc (SinceOf.refl w) _)) (by unfold maxLen; simp; omega) (by simpa using hn) (by simp) ?_; intro A' c' w' hown hgrow _)
    go_returns
    exact ⟨A', c', rfl, hown, ((SinceOf.refl w).alloc _).grown hgrow (by intro k hk; simp [blockOf] at hk; omega)⟩
abbrev Iv : Type := { p : Int × Int // 0 ≤ p.1 ∧ p.1 ≤ 1000000 }
instance : Inhabited Iv := ⟨⟨(0, 0), by omega⟩⟩
def encI (p : Iv) : List Value := encV p.1
def cmpIv (p q : Iv) : Int := p.1.1 - q.1.1
theorem ltOf_cmpIv (p q : Iv) : ltOf cmpIv p q = decide (p.1.1 < q.1.1) := by unfold ltOf cmpIv; simp; omega
theorem swoIv : SWO (ltOf cmpIv) where
  irrefl x := by rw [ltOf_cmpIv]; simp
  trans x y z h1 h2 := by rw [ltOf_cmpIv] at *; simp at *; omega
  ntrans x y z h1 h2 := by rw [ltOf_cmpIv] at *; simp at *; omega
theorem close1_any (a b c d : Int) (w : World) (h0 : 0 ≤ a) (h1 : a ≤ 1000000) (h2 : 0 ≤ c) (h3 : c ≤ 1000000) : Gives Tryz.prog 145 #[vv a b, vv c d] w (.int .i64 (a - c)) := by
  apply Gives.ret
  go_enter Tryz.func145, Tryz.ntmps145
  go_wp2_with fail
  go_returns
  exact ⟨rfl, Lx⟩
theorem cmpLaysIv (blk off size : Nat) (w : World) : CmpLays Tryz.prog 145 #[] encI 2 cmpIv blk off size w := by
  intro m os dk _ x y
  refine (close1_any x.1.1 x.1.2 y.1.1 y.1.2 _ x.2.1 x.2.2 y.2.1 y.2.2).calls.mono ?_
  rintro e _ ⟨rfl, z, rfl⟩
  exact ⟨rfl, grow_of_later z⟩
theorem rowAt_map {α β : Type} {enc : β → List Value} {k : Nat} {w : World} {g off : Nat} (f : α → β) {l : List α} : RowAt enc k w g off (l.map f) ↔ RowAt (fun x => enc (f x)) k w g off l := by
  constructor
  · rintro ⟨h, t⟩; exact ⟨fun i hi j u hu => h i (by simpa using hi) j u (by simpa using hu), t⟩
  · rintro ⟨h, t⟩; exact ⟨fun i hi j u hu => h i (by simpa using hi) j u (by simpa using hu), t⟩
theorem live_map {α β : Type} {enc : β → List Value} {k : Nat} {w : World} {g off : Nat} (f : α → β) {l : List α} : Live enc k w g off (l.map f) ↔ Live (fun x => enc (f x)) k w g off l := by
  constructor
  · rintro ⟨h, t⟩; exact ⟨(rowAt_map f).1 h, by simpa using t⟩
  · rintro ⟨h, t⟩; exact ⟨(rowAt_map f).2 h, by simpa using t⟩
theorem sortIvs_any (g off c : Nat) (l : List (Int × Int)) (w : World) (hL : Live encV 2 w g off l) (hn : l.length < 4611686018427387904) (hb : ∀ p ∈ l, 0 ≤ p.1 ∧ p.1 ≤ 1000000) :
    Calls Tryz.prog 144 #[.slice (some ⟨g, off, none⟩) l.length c, .func (.func 145) #[] #[]] w fun e w' => e = .returned (.tuple #[]) ∧ ∃ m, m.Perm l ∧ m.Pairwise (fun a b => a.1 ≤ b.1) ∧ Live encV 2 w' g off m ∧ w.grownBy w' (some g) := by
  have eg : ∀ args w, (callFunc 145 args).run Tryz.prog w = .ok (.enter 145 args) w := Go.Proofs.enters_of Tryz.func145 (by kernel_rfl) rfl
  have hg : g < w.heap.size := hL.row.there.elim fun h => h.lt
  obtain ⟨la, rfl⟩ : ∃ la : List Iv, l = la.map (·.1) := ⟨l.attach.map fun p => ⟨p.1, hb p.1 p.2⟩, by rw [List.map_map]; exact (List.attach_map_subtype_val l).symm⟩
  have hLa : Live encI 2 w g off la := (live_map (enc := encV) (fun p : Iv => p.1)).1 hL
  have encI_len : ∀ x, (encI x).length = 2 := fun x => rfl
  have encI_one : ∀ x, ∀ v ∈ encI x, v.oneCell' = true := fun x => encV_one x.1
  have hcon := AnyQ.slices_SortFunc Tryz.sortIvs 2 Tryz.isAgg80 Tryz.sizeOf80 encI encI_len encI_one cmpIv swoIv 145 #[] g off c la.toArray w eg (cmpLaysIv g off la.toArray.size w) (hLa.holds encI_len (by omega)) hg (by simpa using hn)
  change Calls Tryz.prog 144 _ _ _ at hcon
  simp only [List.size_toArray] at hcon
  rw [List.length_map]
  refine hcon.mono ?_
  rintro e w' ⟨rfl, d', n, os, hp, hs, rfl⟩
  obtain ⟨hsz, -, hperm⟩ := hp
  have hsz' : d'.size = la.length := by simpa using hsz
  refine ⟨rfl, d'.toList.map (·.1), ?_, ?_, ?_, sortWorld_grown encI 2 w g off n _ os⟩
  · have h1 : d'.extract 0 la.length = d' := by rw [← hsz', Array.extract_size]
    have h2 : la.toArray.extract 0 la.length = la.toArray := by simp
    rw [h1, h2] at hperm
    exact hperm.map _
  · rw [List.pairwise_map, List.pairwise_iff_getElem]
    intro i j hi hj hij
    have := hs i j (Nat.zero_le _) hij (by simpa [hsz'] using hj)
    rw [ltOf_cmpIv] at this
    have hi' : i < d'.size := by simpa using hi
    have hj' : j < d'.size := by simpa using hj
    simp only [getElem!_pos d' i hi', getElem!_pos d' j hj', decide_eq_false_iff_not] at this
    simp only [Array.getElem_toList]; omega
  · refine (live_map (enc := encV) (fun p : Iv => p.1)).2 ?_
    refine live_of_holds encI_len (by omega) ?_ ?_
    · have := (sortWorld_grown encI 2 w g off n d' os).size; exact Nat.lt_of_lt_of_le hg this
    · have h1 := holdsK_putRowK encI 2 (Sort.ahead w n) g off la.toArray d' (holdsK_ahead encI 2 w n g off _ (hLa.holds encI_len (by omega))) (by simpa using hsz)
      have h2 := holdsK_grow encI 2 _ os g off d' (by simpa [putRowK, putRow, mapBlock, Sort.ahead] using hg) h1
      show HoldsK encI 2 _ g off d'.toList.toArray
      rw [Array.toArray_toList]
      exact h2
section
variable {P P' : Int} {A B A' B' : Option Addr} {n c m d n' c' m' d' : Nat} {S D S' D' : List (Int × Int)} {w : World}
theorem few_any (h : IsCal w P A n c B m d S D) : Gives Tryz.prog 64 #[CalV P A n c B m d] w (.bool (decide (S.length ≤ 25) && decide (D.length ≤ 25))) := by
  obtain ⟨rfl, rfl, -, -, h3, h4⟩ := h
  apply Gives.ret
  have key : (decide ((S.length : Int) ≤ 25) = false ∧ (decide (S.length ≤ 25) && decide (D.length ≤ 25)) = false) ∨ (decide ((S.length : Int) ≤ 25) = true ∧ decide ((D.length : Int) ≤ 25) = (decide (S.length ≤ 25) && decide (D.length ≤ 25))) := by
    by_cases h1 : S.length ≤ 25
    · refine .inr ⟨by simp; omega, ?_⟩
      rw [decide_eq_true h1, Bool.true_and, Bool.eq_iff_iff]; simp; omega
    · refine .inl ⟨by simp; omega, ?_⟩
      rw [decide_eq_false h1]; rfl
  rcases key with ⟨k1, e⟩ | ⟨k1, e⟩
  · rw [e]
    clear e
    go_enter Tryz.func64, Tryz.ntmps64
    go_wp2_with fail
    go_returns
    exact ⟨rfl, Lx⟩
  · rw [← e]
    clear e
    go_enter Tryz.func64, Tryz.ntmps64
    go_wp2_with fail
    go_returns
    exact ⟨rfl, Lx⟩
theorem own_any (P : Int) (A B : Option Addr) (n c m d : Nat) (w : World) : Gives Tryz.prog 41 #[CalV P A n c B m d] w (CalV P A n c B m d) := by
  apply Gives.ret
  go_enter Tryz.func41, Tryz.ntmps41
  go_wp2_with fail
  go_returns
  exact ⟨rfl, Lx⟩
end
end Go.Proofs.YtpaojgfmffkodaaGreat
/- The calendar's Close. -/
namespace Go.Proofs.YtpaojgfmffkodaaGreat
set_option linter.unusedVariables false
set_option linter.unusedSimpArgs false
open Go.RowKit Go.Sort
attribute [local go_sem ↓] Go.wp_at_zero Go.wp_at_succ
def CloseR (P : Int) (S D : List (Int × Int)) (a b err P' : Int) (S' D' : List (Int × Int)) : Prop :=
  ((validB P S D && checkB a b) = false ∧ err = errI (validB P S D) (checkB a b) ∧ P' = 0 ∧ S' = [] ∧ D' = []) ∨
  (GoodCal P S D ∧ checkB a b = true ∧ ∃ M, ascI 1000000 (-1) M = true ∧ (∀ t, inI M t = (inI D t || decide (a ≤ t ∧ t < b))) ∧
    ((M.length ≤ 20 ∧ err = 0 ∧ P' = P ∧ S' = S ∧ D' = M) ∨ (20 < M.length ∧ err = 9 ∧ P' = 0 ∧ S' = [] ∧ D' = [])))
def CloseOwn (w : World) (P : Int) (S D : List (Int × Int)) (a b : Int) (e : Ending) (w' : World) : Prop :=
  SinceOf w w' ∧ ∃ (err P' : Int) (A' : Option Addr) (n' c' : Nat) (B' : Option Addr) (m' d' : Nat) (S' D' : List (Int × Int)), e = .returned (.tuple #[CalV P' A' n' c' B' m' d', .int .i64 err]) ∧ IsCal w' P' A' n' c' B' m' d' S' D' ∧ CloseR P S D a b err P' S' D' ∧ OwnIvs w.heap.size w' A' c' S' ∧ OwnIvs w.heap.size w' B' d' D'
theorem Owns.setNe {α : Type} {enc : α → List Value} {k base : Nat} {e : TypeId} {w : World} {A : Option Addr} {c : Nat} {l : List α} (h : Owns enc k base e w A c l) {g i : Nat} {u : Value} (hg : ∀ b, blockOf A = some b → b ≠ g) : Owns enc k base e (w.setCell ⟨g, i, none⟩ u) A c l := by
  obtain ⟨h1, h2⟩ := h
  refine ⟨h1, ?_⟩
  rcases h2 with h2 | ⟨g', cap, cur, hv, hb, hgc, r⟩
  · exact .inl h2
  · refine .inr ⟨g', cap, cur, hv, hb, ?_, r⟩
    have hne : g' ≠ g := by
      refine hg g' ?_
      injection hv with hv _ _
      subst hv
      rfl
    show (w.heap.modify _ _)[g']? = _
    rw [Array.getElem?_modify, if_neg (show g ≠ g' from fun e => hne e.symm)]
    exact hgc
theorem IsCal.none (w : World) : IsCal w 0 Option.none 0 0 Option.none 0 0 [] [] := ⟨rfl, rfl, IsRow.nil _ _ _, IsRow.nil _ _ _, by decide, by decide⟩
theorem ascI_mem {most : Int} : ∀ {l : List (Int × Int)} {last : Int}, ascI most last l = true → ∀ p ∈ l, last < p.1 ∧ p.1 < p.2 ∧ p.2 ≤ most
  | [], _, _, p, hp => by simp at hp
  | s :: l, last, h, p, hp => by
    rw [ascI_cons] at h
    rcases List.mem_cons.1 hp with rfl | hp
    · exact ⟨h.1, h.2.1, h.2.2.1⟩
    · have := ascI_mem h.2.2.2 p hp; omega
theorem mergeI_length (out : List (Int × Int)) (d : Int × Int) : (mergeI out d).length ≤ out.length + 1 := by
  unfold mergeI; split <;> simp
theorem merged_length : ∀ (l out : List (Int × Int)), (l.foldl mergeI out).length ≤ out.length + l.length
  | [], out => by simp
  | d :: l, out => by have := merged_length l (mergeI out d); have := mergeI_length out d; simp only [List.foldl_cons, List.length_cons]; omega
theorem merged_succ (M : List (Int × Int)) (k : Nat) (hk : k < M.length) : (M.take (k + 1)).foldl mergeI [] = mergeI ((M.take k).foldl mergeI []) M[k] := by
  rw [List.take_succ_eq_append_getElem hk, List.foldl_append]; rfl
section
variable {P : Int} {A B : Option Addr} {n c m d : Nat} {S D : List (Int × Int)} {w : World}
set_option maxRecDepth 100000 in
set_option maxHeartbeats 4000000 in
theorem closeOwn_any (a b : Int) (h : IsCal w P A n c B m d S D) : Calls Tryz.prog 105 #[CalV P A n c B m d, .int .i64 a, .int .i64 b] w (CloseOwn w P S D a b) := by
  have K := fun W hW => checked_any (w := W) a b (h.of hW)
  by_cases hg : (validB P S D && checkB a b) = true
  · rw [Bool.and_eq_true] at hg
    obtain ⟨hv, hc⟩ := hg
    rw [hv, hc] at K
    have g := validB_iff.1 hv
    obtain ⟨h0, h1, h2⟩ := checkB_iff.1 hc
    obtain ⟨rfl, rfl, hS, hD, hn, hm⟩ := h
    have hD20 := g.d20
    have HG := Lib.hid (And.intro g (And.intro hc (And.intro hS hD)))
    obtain ⟨i0, hi, hz0, hz1, hz2⟩ := info_parts infoIv
    have HI := Lib.hid (And.intro hi (And.intro hz0 (And.intro hz1 hz2)))
    clear hv hc g hS hD hi hz0 hz1 hz2
    go_enter Tryz.func105, Tryz.ntmps105
    go_wp2_with fail
    refine (K _ Sx).calls.mono ?_
    rintro e _ ⟨rfl, x1, rfl⟩
    simp only [errI, if_true]
    clear K
    go_wp2_with (refine wpList_make_owns _ rfl (.tmp 24) (.tmp 28) 81 rfl encV_len (0, 0) i0 _ 16 Tryz.underlying81 HI.out.1 HI.out.2.1 HI.out.2.2.1 HI.out.2.2.2 rfl (by omega) D.length (D.length + 1) rfl rfl (by omega) (by omega) (by unfold maxLen; omega) (Nat.le_refl _) ?_; intro cs hown)
    obtain ⟨l0, hl0, hown0⟩ : ∃ l0 : List (Int × Int), l0.length = D.length ∧ OwnIvs x1.wd.heap.size (x1.wd.alloc (.cells cs 80)) (some ⟨x1.wd.heap.size, 0, none⟩) (D.length + 1) l0 := ⟨_, List.length_replicate, hown⟩
    have hrow : IsIvs (x1.wd.alloc (.cells cs 80)) B d D := HG.out.2.2.2.of (((((SinceOf.refl w).alloc _).alloc _).later x1).alloc _)
    have HO := Lib.hid (And.intro hl0 (And.intro hown0 hrow))
    clear hl0 hown0 hown hrow
    have hi2 : (Tryz.prog.info? 80).map (·.size) = some 2 := by kernel_rfl
    obtain ⟨w2, hrun, hown2, hgr2⟩ := run_copy_owns (P := Tryz.prog) encV_len (by omega) encV_one 81 81 3 Tryz.underlying81 hi2 HO.out.2.1 HO.out.2.2 HO.out.1.symm
    rw [HO.out.1] at hrun
    rw [hrun]
    have hs2 : SinceOf x1.wd w2 := ((SinceOf.refl x1.wd).alloc _).grown hgr2 (by intro k hk; simp [blockOf] at hk; omega)
    obtain ⟨y2, rfl⟩ := hs2
    have H2 := Lib.hid hown2
    clear hrun hown2 hgr2 HO hi2
    go_upto_if 36 with fail
    go_cut [9] (fun s9 wx => ∃ (g c' : Nat) (L : List (Int × Int)), s9 = .slice (some ⟨g, 0, none⟩) L.length c' ∧ OwnIvs x1.wd.heap.size wx (some ⟨g, 0, none⟩) c' L ∧ L = (if a < b then D ++ [(a, b)] else D) ∧ SinceOf x1.wd wx)
    case first =>
      by_cases hlt : a < b
      · go_wp2_with (at_builtin; refine wpList_append_row rfl (.tmp 37) (.tmp 41) 81 rfl encV_len (by omega) encV_one i0 _ 16 Tryz.underlying81 HI.out.1 HI.out.2.1 HI.out.2.2.1 HI.out.2.2.2 rfl (l := D) (A := some ⟨x1.wd.heap.size, 0, none⟩) (c := D.length + 1) (base := x1.wd.heap.size) rfl (H2.out.alloc _) (m := [(a, b)]) rfl (isRow_one _ a b _) (by unfold maxLen; simp; omega) (by simp; omega) (by have := y2.size; simp; omega) ?_; intro A' c' w' hown hgrow hbl)
        go_meet
        obtain ⟨g, rfl, hgb, -⟩ := Owns.at0 hown (by simp)
        refine ⟨g, c', D ++ [(a, b)], by simp, hown, by rw [if_pos hlt], ?_⟩
        exact (SinceOf.alloc ⟨y2, rfl⟩ _).grown hgrow (by intro k hk; simp [blockOf] at hk; omega)
      · go_wp2_with fail
        go_meet
        exact ⟨_, _, D, rfl, H2.out, by rw [if_neg (by omega)], ⟨y2, rfl⟩⟩
    case rest =>
      obtain ⟨g, c', L, rfl, hL, hLd, ⟨y3, rfl⟩⟩ := hcut
      have hLb : ∀ p ∈ L, 0 ≤ p.1 ∧ p.1 < p.2 ∧ p.2 ≤ 1000000 := by
        have hD := ascI_mem HG.out.1.d
        rw [hLd]
        split
        · intro p hp
          rcases List.mem_append.1 hp with hp | hp
          · have := hD p hp; omega
          · obtain rfl : p = (a, b) := by simpa using hp
            exact ⟨h0, by assumption, h2⟩
        · intro p hp; have := hD p hp; omega
      have hLset : ∀ t, inI L t = (inI D t || decide (a ≤ t ∧ t < b)) := by
        intro t
        rw [hLd]
        split
        · rw [inI_snoc]
        · rw [show decide (a ≤ t ∧ t < b) = false from by simp; omega, Bool.or_false]
      have hL21 : L.length ≤ 21 := by
        rw [hLd]; split
        · rw [List.length_append, List.length_singleton]; omega
        · omega
      have hlive := hL.live0 encV_len
      have hsort := sortIvs_any g 0 c' L y3.wd hlive.2 (by omega) (fun p hp => by have := hLb p hp; omega)
      have HL := Lib.hid (And.intro hlive.1 (And.intro hLb hLset))
      clear hL hLd hlive hLb hLset H2
      go_wp2_with fail
      refine hsort.mono ?_
      clear hsort
      rintro e w3 ⟨rfl, M, hperm, hsorted, hM, hgr⟩
      obtain ⟨y4, rfl⟩ : SinceOf x1.wd w3 := SinceOf.grown ⟨y3, rfl⟩ hgr (by intro k hk; injection hk with hk; rw [← hk]; exact HL.out.1)
      have hML := hperm.length_eq
      have hmerge := merged_ok (most := 1000000) (l := M) (out := []) rfl (fun d hd => by have := HL.out.2.1 d (hperm.mem_iff.1 hd); exact ⟨this.1, this⟩) hsorted
      have hset : ∀ t, inI (M.foldl mergeI []) t = (inI D t || decide (a ≤ t ∧ t < b)) := fun t => by rw [hmerge.2, List.nil_append, inI_perm hperm, HL.out.2.2]
      have HM := Lib.hid (And.intro hML (And.intro hM.row (And.intro hmerge.1 hset)))
      clear hperm hsorted hM hgr hML hmerge hset HL
      go_wp2_with fail
      go_loopg [10, 47] L.length (fun gas s10 s47 wr => ∃ (k : Nat) (A2 : Option Addr) (c2 : Nat), k ≤ L.length ∧ L.length - k ≤ gas ∧ s10 = .slice A2 ((M.take k).foldl mergeI []).length c2 ∧ s47 = .int .i64 k ∧ OwnIvs y4.wd.heap.size wr A2 c2 ((M.take k).foldl mergeI []) ∧ SinceOf y4.wd wr)
      case atStart => exact ⟨0, none, 0, by omega, by omega, rfl, rfl, Owns.nil _ _ _ _ _, SinceOf.refl _⟩
      case round =>
        obtain ⟨k, A2, c2, hk, hgas, rfl, rfl, hown, ⟨z, rfl⟩⟩ := hrel
        have hol : ((M.take k).foldl mergeI []).length ≤ 21 := by
          have := merged_length (M.take k) []
          rw [List.length_take] at this
          simp only [List.length_nil] at this
          omega
        by_cases hlt : k < L.length
        · have hkM : k < M.length := by rw [HM.out.1]; exact hlt
          have hs := merged_succ M k hkM
          have hr := HM.out.2.1.of ⟨z, rfl⟩
          have hO := hr.there
          have k0 := hr.v0 k hkM
          have k1 := hr.v1 k hkM
          obtain ⟨⟨d0, d1⟩, hd⟩ : ∃ q, q = M[k] := ⟨_, rfl⟩
          rw [← hd] at k0 k1 hs
          generalize (M.take k).foldl mergeI [] = out at *
          have HS := Lib.hid hs
          clear hs hr hd hkM
          simp only [Nat.zero_add] at k0 k1
          have hzs := z.size
          by_cases hempty : out.length = 0
          · obtain rfl : out = [] := List.eq_nil_of_length_eq_zero hempty
            have hm : (M.take (k + 1)).foldl mergeI [] = [(d0, d1)] := by rw [HS.out]; rfl
            have HMm := Lib.hid (And.intro hm hown)
            clear hm hown hempty
            go_wp2_with fail
            refine region_later (by kernel_rfl) (by kernel_rfl) ?_
            repeat (go_big_quiet_step (fail))
            refine wpQuiet_nil ?_
            rintro _ ⟨z2, rfl⟩
            go_wp2_with (at_builtin; refine wpList_append_row rfl (.tmp 80) (.tmp 82) 81 rfl encV_len (by omega) encV_one i0 _ 16 Tryz.underlying81 HI.out.1 HI.out.2.1 HI.out.2.2.1 HI.out.2.2.2 rfl (l := []) (A := A2) (c := c2) (base := y4.wd.heap.size) rfl (((HMm.out.2.alloc _).of (LaterOf.since ⟨z2, rfl⟩)).alloc _) (m := [(d0, d1)]) rfl (isRow_one _ d0 d1 _) (by unfold maxLen; simp) (by simp) (by have := z2.size; simp at this ⊢; omega) ?_; intro A' c3 w' hown hgrow hbl)
            go_roundg (L.length - (k + 1))
            case measure => omega
            case rel =>
              refine ⟨k + 1, A', c3, hlt, Nat.le_refl _, ?_, by go_num, ?_, ?_⟩
              · rw [HMm.out.1]; rfl
              · rw [HMm.out.1]; exact hown
              · refine SinceOf.grown (SinceOf.alloc (SinceOf.later (SinceOf.alloc ⟨z, rfl⟩ _) z2) _) hgrow (fun b hb => (HMm.out.2.below b hb).1)
          · have hn0 : 0 < out.length := by omega
            obtain ⟨g2, rfl, hg2b, hg2⟩ := hown.at0 hn0
            have hlv := (hown.live0 encV_len).2
            have hO2 := hlv.row.there
            have m1 := hlv.row.v1 (out.length - 1) (by omega)
            have f1 := hlv.free ((out.length - 1) * 2 + 1) (by omega)
            obtain ⟨⟨e0, e1⟩, he⟩ : ∃ q, q = out[out.length - 1] := ⟨_, rfl⟩
            rw [← he] at m1
            simp only [Nat.zero_add] at m1 f1
            have hgD : out.getD (out.length - 1) (0, 0) = (e0, e1) := by rw [List.getD_eq_getElem?_getD, List.getElem?_eq_getElem (by omega), he]; rfl
            have HE := Lib.hid (And.intro he hgD)
            clear he hgD hlv
            by_cases hle : d0 ≤ e1
            · have hm : (M.take (k + 1)).foldl mergeI [] = out.set (out.length - 1) (e0, max e1 d1) := by
                rw [HS.out]; unfold mergeI; rw [HE.out.2, if_pos ⟨hn0, hle⟩]
              have HMm := Lib.hid (And.intro hm hown)
              clear hm hown hempty
              go_wp2_with fail
              refine region_later (by kernel_rfl) (by kernel_rfl) ?_
              repeat (go_big_quiet_step (fail))
              refine wpQuiet_nil ?_
              rintro _ ⟨z2, rfl⟩
              go_wp2_with fail
              have q0 : z2.wd.cell? ⟨g2, (out.length - 1) * 2 + 1, none⟩ = some (.int .i64 e1) := by simp [go_sem, m1]
              have q1 : z2.wd.frozen? ⟨g2, (out.length - 1) * 2 + 1, none⟩ = false := by simp [go_sem, f1]
              have q2 : z2.wd.cell? ⟨z.wd.heap.size, 1, none⟩ = some (.int .i64 d1) := by simp [go_sem]
              have hown2 : OwnIvs y4.wd.heap.size z2.wd (some ⟨g2, 0, none⟩) c2 out := (HMm.out.2.alloc _).of (LaterOf.since ⟨z2, rfl⟩)
              have hsi2 : SinceOf y4.wd z2.wd := SinceOf.later (SinceOf.alloc ⟨z, rfl⟩ _) z2
              have H3 := Lib.hid (And.intro hown2 hsi2)
              clear hown2 hsi2 m1 f1 k0 k1
              go_big_region
              go_wp2_with fail
              go_roundg (L.length - (k + 1))
              case measure => omega
              case rel =>
                obtain ⟨o1, o2⟩ := Owns.set1 H3.out.1 (out.length - 1) (by omega) (max e1 d1)
                rw [← HE.out.1] at o1
                refine ⟨k + 1, some ⟨g2, 0, none⟩, c2, hlt, Nat.le_refl _, ?_, by go_num, ?_, ?_⟩
                · rw [HMm.out.1, List.length_set]
                · rw [HMm.out.1]; rw [imax_eq]; exact Owns.of o1 ((SinceOf.refl _).drew)
                · rw [imax_eq]; exact (SinceOf.grown H3.out.2 o2 (fun b hb => by injection hb with hb; omega)).drew
            · have hm : (M.take (k + 1)).foldl mergeI [] = out ++ [(d0, d1)] := by
                rw [HS.out]; unfold mergeI; rw [HE.out.2, if_neg (fun h => hle h.2)]
              have HMm := Lib.hid (And.intro hm hown)
              clear hm hown hempty
              have hle2 : decide (d0 ≤ e1) = false := decide_eq_false hle
              clear hle
              go_wp2_with fail
              refine region_later (by kernel_rfl) (by kernel_rfl) ?_
              repeat (go_big_quiet_step (fail))
              refine wpQuiet_nil ?_
              rintro _ ⟨z2, rfl⟩
              go_wp2_with (at_builtin; refine wpList_append_row rfl (.tmp 80) (.tmp 82) 81 rfl encV_len (by omega) encV_one i0 _ 16 Tryz.underlying81 HI.out.1 HI.out.2.1 HI.out.2.2.1 HI.out.2.2.2 rfl (l := out) (A := some ⟨g2, 0, none⟩) (c := c2) (base := y4.wd.heap.size) rfl (((HMm.out.2.alloc _).of (LaterOf.since ⟨z2, rfl⟩)).alloc _) (m := [(d0, d1)]) rfl (isRow_one _ d0 d1 _) (by unfold maxLen; simp; omega) (by simp; omega) (by have := z2.size; simp at this ⊢; omega) ?_; intro A' c3 w' hown hgrow hbl)
              go_roundg (L.length - (k + 1))
              case measure => omega
              case rel =>
                refine ⟨k + 1, A', c3, hlt, Nat.le_refl _, ?_, by go_num, ?_, ?_⟩
                · rw [HMm.out.1, List.length_append]; rfl
                · rw [HMm.out.1]; exact hown
                · refine SinceOf.grown (SinceOf.alloc (SinceOf.later (SinceOf.alloc ⟨z, rfl⟩ _) z2) _) hgrow (fun b hb => (HMm.out.2.below b hb).1)
        · have hkl : k = L.length := by omega
          have hall : M.take k = M := by rw [hkl, ← HM.out.1, List.take_length]
          rw [hall] at hown hol
          rw [hall]
          obtain ⟨hMl, -, hMa, hMs⟩ := HM.out
          generalize M.foldl mergeI [] = R at *
          have HR := Lib.hid (And.intro hown (And.intro hMa hMs))
          clear hown hall hkl hMl hMa hMs HM
          by_cases hR : R.length ≤ 20
          · have HR2 := Lib.hid hR
            go_wp2_with fail
            go_region_held3 (fun w' => w'.cell? ⟨w.heap.size, 0, none⟩ = some (.int .i64 P) ∧ w'.cell? ⟨w.heap.size, 1, none⟩ = some (.slice A S.length c)) ((simp [go_sem, *]))
              (first | (go_at_call 65; refine (cloneIvs_any A c S _ (HG.out.2.2.1.of Sx) (by have := HG.out.1.s20; omega)).mono ?_; rintro e _ ⟨A1, c1, rfl, ho, ⟨y5, rfl⟩⟩))
            all_goals
              go_wp2_with fail
              go_returns
              have e1 := x1.size
              have e2 := y4.size
              have e3 := z.size
              simp at e1
              have b1 : ∀ b, blockOf A1 = some b → b ≠ w.heap.size + 1 := fun b hb => by have := (ho.below b hb).1; simp at this; omega
              have b2 : ∀ b, blockOf A2 = some b → b ≠ w.heap.size + 1 := fun b hb => by have := (HR.out.1.below b hb).1; omega
              have r1 := ho.isRow encV_len
              have r2 := ((HR.out.1.isRow encV_len).of ((SinceOf.refl _).drew)).since y5
              refine ⟨Sx, 0, P, A1, S.length, c1, A2, R.length, c2, S, R, rfl, ⟨rfl, rfl, ((r1.setOther _ _ _ b1).setOther _ _ _ b1).setOther _ _ _ b1, ((r2.setOther _ _ _ b2).setOther _ _ _ b2).setOther _ _ _ b2, hn, by omega⟩, .inr ⟨HG.out.1, HG.out.2.1, R, HR.out.2.1, HR.out.2.2, .inl ⟨HR2.out, rfl, rfl, rfl, rfl⟩⟩, ?_, ?_⟩
              · exact (((ho.base_le (by simp; omega)).setNe b1).setNe b1).setNe b1
              · exact (((((HR.out.1.of ((SinceOf.refl _).drew)).of ⟨y5, rfl⟩).base_le (by omega)).setNe b2).setNe b2).setNe b2
          · have hR2 : 20 < R.length := by omega
            have HR2 := Lib.hid hR2
            clear hR2
            go_wp2_with fail
            go_returns
            refine ⟨Sx, 9, 0, none, 0, 0, none, 0, 0, [], [], rfl, IsCal.none _, .inr ⟨HG.out.1, HG.out.2.1, R, HR.out.2.1, HR.out.2.2, .inr ⟨HR2.out, rfl, rfl, rfl, rfl⟩⟩, Owns.nil _ _ _ _ _, Owns.nil _ _ _ _ _⟩
  · have hd : errI (validB P S D) (checkB a b) = 1 ∨ errI (validB P S D) (checkB a b) = 2 := by
      cases hv : validB P S D <;> cases hc : checkB a b <;> simp [hv, hc, errI] at hg ⊢
    have hg' : (validB P S D && checkB a b) = false := by simpa using hg
    have HF : ∀ w', SinceOf w w' → CloseOwn w P S D a b (.returned (.tuple #[.agg #[.int .i64 0, .slice none 0 0, .slice none 0 0], .int .i64 (errI (validB P S D) (checkB a b))])) w' :=
      fun w' hw => ⟨hw, _, 0, none, 0, 0, none, 0, 0, [], [], rfl, IsCal.none _, .inl ⟨hg', rfl, rfl, rfl, rfl⟩, Owns.nil _ _ _ _ _, Owns.nil _ _ _ _ _⟩
    have HF := Lib.hid HF
    clear h hg hg'
    generalize errI (validB P S D) (checkB a b) = q at *
    rcases hd with rfl | rfl
    all_goals
      go_enter Tryz.func105, Tryz.ntmps105
      go_wp2_with fail
      refine (K _ Sx).calls.mono ?_
      rintro e _ ⟨rfl, x1, rfl⟩
      go_wp2_with fail
      go_returns
      exact HF.out _ Sx
end
end Go.Proofs.YtpaojgfmffkodaaGreat
/- The reference's Close. -/
namespace Go.Proofs.YtpaojgfmffkodaaGreat
set_option linter.unusedVariables false
set_option linter.unusedSimpArgs false
open Go.RowKit Go.Sort
attribute [local go_sem ↓] Go.wp_at_zero Go.wp_at_succ
section
variable {P : Int} {A B : Option Addr} {n c m d : Nat} {S D : List (Int × Int)} {w : World}
end
end Go.Proofs.YtpaojgfmffkodaaGreat
