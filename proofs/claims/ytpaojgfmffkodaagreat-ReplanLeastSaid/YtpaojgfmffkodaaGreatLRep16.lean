/- Layer 54: slices.DeleteFunc at slots. -/
import Derived.Test.YtpaojgfmffkodaaGreatLRep14
import Derived.Lib.SliceRun
namespace Go.Proofs.YtpaojgfmffkodaaGreat
set_option linter.unusedVariables false
set_option linter.unusedSimpArgs false
open Go.RowKit Go.Sort
attribute [local go_sem ↓] Go.wp_at_zero Go.wp_at_succ
section
variable {α : Type} {enc : α → List Value} {k base : Nat} {e : TypeId} {w : World} {g c : Nat} {l : List α}
theorem Owns.short (hk : ∀ x, (enc x).length = k) (h : Owns enc k base e w (some ⟨g, 0, none⟩) c l) (m : Nat) : Owns enc k base e w (some ⟨g, 0, none⟩) c (l.take m) := by
  obtain ⟨h1, h2⟩ := h
  rcases h2 with ⟨h2, -⟩ | ⟨g', cap, cur, hv, hb, hg, hn, hm, hs, ht⟩
  · cases h2
  · have hl : (l.take m).length ≤ l.length := by rw [List.length_take]; exact Nat.min_le_right _ _
    refine ⟨flat_length hk _, .inr ⟨g', cap, cur, ?_, hb, hg, Nat.le_trans hl hn, hm, hs, ?_⟩⟩
    · injection hv with h3 h4 h5
      rw [h3, h5]
    · have e1 : l.flatMap enc = (l.take m).flatMap enc ++ (l.drop m).flatMap enc := by rw [← List.flatMap_append, List.take_append_drop]
      have e2 : (l.take m).length * k ≤ l.length * k := Nat.mul_le_mul_right _ hl
      have e3 := congrArg (List.take ((l.take m).length * k)) ht
      rw [List.take_take, Nat.min_eq_left e2, e1] at e3
      rw [e3]
      rw [List.take_append_of_le_length (by rw [flat_length hk]; exact Nat.le_refl _), List.take_of_length_le (by rw [flat_length hk]; exact Nat.le_refl _)]
theorem Owns.behind1 (h : Owns enc k base e w (some ⟨g, 0, none⟩) c l) {i : Nat} (hi : l.length * k ≤ i) (u : Value) : Owns enc k base e (w.setCell ⟨g, i, none⟩ u) (some ⟨g, 0, none⟩) c l := by
  obtain ⟨h1, h2⟩ := h
  rcases h2 with ⟨h2, -⟩ | ⟨g', cap, cur, hv, hb, hg, hn, hm, hs, ht⟩
  · cases h2
  · have hgg : g' = g := by injection hv with h3 _ _; injection h3 with h3; injection h3 with h3 _ _; exact h3.symm
    subst hgg
    refine ⟨h1, .inr ⟨g', cap, cur.setIfInBounds i u, hv, hb, set_block hg u, hn, hm, by rw [Array.size_setIfInBounds]; exact hs, ?_⟩⟩
    rw [Array.toList_setIfInBounds, List.take_set_of_le hi]
    exact ht
theorem Owns.behindAll : ∀ (vs : List Value) (o : Nat) (w : World), Owns enc k base e w (some ⟨g, 0, none⟩) c l → l.length * k ≤ o → Owns enc k base e (w.setCells g o vs) (some ⟨g, 0, none⟩) c l
  | [], o, w, h, _ => h
  | v :: r, o, w, h, ho => Owns.behindAll r (o + 1) _ (h.behind1 ho v) (by omega)
end
theorem SameBut.setCells {es : List TypeId} {g : Nat} {e : TypeId} (he : e ∈ es) : ∀ (vs : List Value) (o : Nat) (w : World), (∃ cur, w.heap[g]? = some (Obj.cells cur e (0, 0))) → SameBut es w (w.setCells g o vs)
  | [], o, w, _ => SameBut.refl _ _
  | v :: r, o, w, ⟨cur, h⟩ => (SameBut.set (i := o) (u := v) ⟨_, _, _, he, h⟩).trans (SameBut.setCells he r (o + 1) _ ⟨_, set_block h v⟩)
theorem zeroCells_one (n : Nat) : ∀ v ∈ (Builtin.zeroCells #[.int .i64 0, .int .i64 0, .int .i64 0, .int .i64 0] n).toList, v = .int .i64 0 := by
  intro v hv
  unfold Builtin.zeroCells at hv
  simp only [Array.toList_map, List.mem_map, Array.mem_toList_iff, Array.mem_range] at hv
  obtain ⟨i, -, rfl⟩ := hv
  have h4 : i % 4 < 4 := Nat.mod_lt _ (by omega)
  show (#[Value.int .i64 0, .int .i64 0, .int .i64 0, .int .i64 0] : Array Value)[i % 4]! = _
  generalize i % 4 = q at *
  rcases (show q = 0 ∨ q = 1 ∨ q = 2 ∨ q = 3 by omega) with rfl | rfl | rfl | rfl <;> rfl
theorem zeroCells_len (n : Nat) : (Builtin.zeroCells #[.int .i64 0, .int .i64 0, .int .i64 0, .int .i64 0] n).toList.length = n * 4 := by
  unfold Builtin.zeroCells
  simp
theorem run_clear_slots (w : World) (ty : TypeId) (b o n c : Nat) (hn : 0 < n) (hc : ∀ j, j < n * 4 → (w.cell? ⟨b, o + j, none⟩).isSome = true) (hf : ∀ j, j < n * 4 → w.frozen? ⟨b, o + j, none⟩ = false) :
    (Builtin.clear_ #[39] ty #[.slice (some ⟨b, o, none⟩) n c]).run Tryz.prog w = .ok (.tuple #[]) (w.setCells b o (Builtin.zeroCells #[.int .i64 0, .int .i64 0, .int .i64 0, .int .i64 0] n).toList) := by
  have hst := run_storeCells_cells (P := Tryz.prog) b o (Builtin.zeroCells #[.int .i64 0, .int .i64 0, .int .i64 0, .int .i64 0] n).toList 0 w (by rw [zeroCells_len]; simpa using hc) (by rw [zeroCells_len]; simpa using hf) (by intro v hv; rw [zeroCells_one n v hv]; rfl)
  simp only [Nat.add_zero] at hst
  obtain ⟨m, rfl⟩ : ∃ m, n = m + 1 := ⟨n - 1, by omega⟩
  have hz : (Value.agg #[.int .i64 0, .int .i64 0, .int .i64 0, .int .i64 0]).cells = #[.int .i64 0, .int .i64 0, .int .i64 0, .int .i64 0] := by rfl
  simp only [Builtin.clear_]
  simp [run_underlying Tryz.underlying39, hz, hst]
set_option maxRecDepth 100000 in
set_option maxHeartbeats 2000000 in
theorem indexDrop_any (v1 : Value) (p : SlotR → Bool) (A : Option Addr) (c : Nat) (l : List SlotR) (w : World) (h : IsSlots w A c l) (hlen : l.length < 4611686018427387904) (hf : ∀ W, SinceOf w W → ∀ y ∈ l, Gives Tryz.prog 36 #[slotV y, v1] W (.bool (p y))) :
    Calls Tryz.prog 75 #[.slice A l.length c, .func (.func 36) #[] #[v1]] w fun e w' => ∃ r : Int, e = .returned (.int .i64 r) ∧ ((r = -1 ∧ ∀ j, (h : j < l.length) → p l[j] = false) ∨ ∃ i : Nat, r = i ∧ ∃ hi : i < l.length, p l[i] = true ∧ ∀ j, (h : j < i) → p (l[j]'(Nat.lt_trans h hi)) = false) ∧ SinceOf w w' := by
  have H := Lib.hid h
  clear h
  go_enter Tryz.func75, Tryz.ntmps75
  go_wp2_with fail
  go_loopg [8] l.length (fun gas s8 wr => ∃ (k : Nat) (hk : k ≤ l.length), l.length - k ≤ gas ∧ s8 = .int .i64 k ∧ SinceOf w wr ∧ ∀ j, (h : j < k) → p (l[j]'(Nat.lt_of_lt_of_le h hk)) = false)
  case atStart => exact ⟨0, by omega, by omega, rfl, Sx, fun j h => by omega⟩
  case round =>
    obtain ⟨k, hk, hgas, rfl, ⟨z, rfl⟩, hany⟩ := hrel
    by_cases hlt : k < l.length
    · have hc := H.out.of (show SinceOf w z.wd from Sx)
      have C := hf z.wd ⟨z, rfl⟩ _ (List.getElem_mem hlt)
      obtain ⟨g, off, rfl, hr⟩ := hc.at_ (by omega)
      have hO := hr.there
      have k0 := hr.s0 k hlt
      have k1 := hr.s1 k hlt
      have k2 := hr.s2 k hlt
      have k3 := hr.s3 k hlt
      cases hx : p l[k]
      · rw [hx] at C
        have HA := Lib.hid (show ∀ j, (h : j < k + 1) → p (l[j]'(Nat.lt_of_lt_of_le h hlt)) = false from fun j hj => by
          by_cases e : j = k
          · subst e; exact hx
          · exact hany j (by omega))
        generalize l[k] = x at *
        clear hany hx hc hr
        go_wp2_with fail
        refine C.calls.mono ?_
        rintro e _ ⟨rfl, x1, rfl⟩
        go_wp2_with fail
        go_roundg (l.length - (k + 1))
        case measure => omega
        case rel => exact ⟨k + 1, hlt, Nat.le_refl _, by go_num, Sx, HA.out⟩
      · rw [hx] at C
        have HA := Lib.hid (And.intro hx hany)
        obtain ⟨x, hxe⟩ : ∃ x, x = l[k] := ⟨_, rfl⟩
        rw [← hxe] at C k0 k1 k2 k3
        clear hany hx hc hr hxe
        go_wp2_with fail
        refine C.calls.mono ?_
        rintro e _ ⟨rfl, x1, rfl⟩
        go_wp2_with fail
        go_returns
        exact ⟨k, rfl, .inr ⟨k, rfl, hlt, HA.out.1, HA.out.2⟩, Sx⟩
    · have hkl : k = l.length := by omega
      subst hkl
      have HA := Lib.hid hany
      clear hany
      go_wp2_with fail
      go_returns
      exact ⟨-1, rfl, .inl ⟨rfl, HA.out⟩, Sx⟩
structure DelR (p : SlotR → Bool) (l : List SlotR) (i j : Nat) (l' : List SlotR) : Prop where
  len : l'.length = l.length
  lt : i < j
  le : j ≤ l.length
  kept : l'.take i = (l.take j).filter fun y => !p y
  rest : l'.drop j = l.drop j
theorem DelR.skip {p : SlotR → Bool} {l l' : List SlotR} {i j : Nat} (h : DelR p l i j l') (hj : j < l.length) (hp : p l[j] = true) : DelR p l i (j + 1) l' := by
  refine ⟨h.len, Nat.lt_succ_of_lt h.lt, hj, ?_, ?_⟩
  · rw [List.take_succ_eq_append_getElem hj, List.filter_append, h.kept]
    simp [hp]
  · have := congrArg (List.drop 1) h.rest
    rw [List.drop_drop, List.drop_drop] at this
    exact this
theorem DelR.take {p : SlotR → Bool} {l l' : List SlotR} {i j : Nat} (h : DelR p l i j l') (hj : j < l.length) (hp : p l[j] = false) : DelR p l (i + 1) (j + 1) (l'.set i l[j]) := by
  have hi : i < l'.length := by have := h.len; have := h.lt; omega
  refine ⟨by rw [List.length_set]; exact h.len, Nat.succ_lt_succ h.lt, hj, ?_, ?_⟩
  · rw [List.take_succ_eq_append_getElem hj, List.filter_append, List.take_succ_eq_append_getElem (by rw [List.length_set]; exact hi), List.getElem_set_self, List.take_set_of_le (Nat.le_refl _), h.kept]
    simp [hp]
  · rw [List.drop_set_of_lt (by have := h.lt; omega)]
    have := congrArg (List.drop 1) h.rest
    rw [List.drop_drop, List.drop_drop] at this
    exact this
theorem DelR.at {p : SlotR → Bool} {l l' : List SlotR} {i j : Nat} (h : DelR p l i j l') (hj : j < l.length) : l'[j]'(by rw [h.len]; exact hj) = l[j] := by
  have e : (l'.drop j)[0]? = (l.drop j)[0]? := by rw [h.rest]
  rw [List.getElem?_drop, List.getElem?_drop] at e
  simpa [hj, h.len] using e
theorem setCells_other (g : Nat) : ∀ (vs : List Value) (o : Nat) (w : World) (b : Nat), g ≠ b → (w.setCells g o vs).heap[b]? = w.heap[b]?
  | [], o, w, b, _ => rfl
  | v :: r, o, w, b, h => by
    have h1 := setCells_other g r (o + 1) (w.setCell ⟨g, o, none⟩ v) b h
    refine h1.trans ?_
    show (w.heap.modify g _)[b]? = _
    rw [Array.getElem?_modify, if_neg h]
theorem setCells_since {w0 : World} (g : Nat) (hg : w0.heap.size ≤ g) : ∀ (vs : List Value) (o : Nat) (w : World), SinceOf w0 w → SinceOf w0 (w.setCells g o vs)
  | [], o, w, h => h
  | v :: r, o, w, h => setCells_since g hg r (o + 1) _ (SinceOf.setCell h hg _)
theorem setSlot4 {b0 q c i : Nat} {W : World} {l : List SlotR} (h : Owns encS 4 b0 76 W (some ⟨q, 0, none⟩) c l) (hi : i < l.length) (x : SlotR) :
    Owns encS 4 b0 76 ((((W.setCell ⟨q, i * 4, none⟩ (.int .i64 x.job)).setCell ⟨q, i * 4 + 1, none⟩ (.int .i64 x.mach)).setCell ⟨q, i * 4 + 2, none⟩ (.int .i64 x.start)).setCell ⟨q, i * 4 + 3, none⟩ (.int .i64 x.stop)) (some ⟨q, 0, none⟩) c (l.set i x) ∧
    SameBut [76] W ((((W.setCell ⟨q, i * 4, none⟩ (.int .i64 x.job)).setCell ⟨q, i * 4 + 1, none⟩ (.int .i64 x.mach)).setCell ⟨q, i * 4 + 2, none⟩ (.int .i64 x.start)).setCell ⟨q, i * 4 + 3, none⟩ (.int .i64 x.stop)) ∧
    (∀ b, q ≠ b → ((((W.setCell ⟨q, i * 4, none⟩ (.int .i64 x.job)).setCell ⟨q, i * 4 + 1, none⟩ (.int .i64 x.mach)).setCell ⟨q, i * 4 + 2, none⟩ (.int .i64 x.start)).setCell ⟨q, i * 4 + 3, none⟩ (.int .i64 x.stop)).heap[b]? = W.heap[b]?) ∧
    (∀ w0, SinceOf w0 W → w0.heap.size ≤ q → SinceOf w0 ((((W.setCell ⟨q, i * 4, none⟩ (.int .i64 x.job)).setCell ⟨q, i * 4 + 1, none⟩ (.int .i64 x.mach)).setCell ⟨q, i * 4 + 2, none⟩ (.int .i64 x.start)).setCell ⟨q, i * 4 + 3, none⟩ (.int .i64 x.stop))) := by
  obtain ⟨cur, hq⟩ := h.typed q rfl
  have h1 := h.putAt encS_len (by omega) i hi 0 (by omega) (.int .i64 x.job) ⟨x.job, l[i].mach, l[i].start, l[i].stop⟩ rfl
  have h2 := h1.putAt encS_len (by omega) i (by simpa using hi) 1 (by omega) (.int .i64 x.mach) ⟨x.job, x.mach, l[i].start, l[i].stop⟩ (by rw [List.getElem_set_self]; rfl)
  have h3 := h2.putAt encS_len (by omega) i (by simpa using hi) 2 (by omega) (.int .i64 x.start) ⟨x.job, x.mach, x.start, l[i].stop⟩ (by rw [List.getElem_set_self]; rfl)
  have h4 := h3.putAt encS_len (by omega) i (by simpa using hi) 3 (by omega) (.int .i64 x.stop) x (by rw [List.getElem_set_self]; rfl)
  rw [List.set_set, List.set_set, List.set_set, Nat.add_zero] at h4
  have q1 := set_block (i := i * 4) hq (.int .i64 x.job)
  have q2 := set_block (i := i * 4 + 1) q1 (.int .i64 x.mach)
  have q3 := set_block (i := i * 4 + 2) q2 (.int .i64 x.start)
  refine ⟨h4, ((((SameBut.set ⟨_, _, _, List.mem_singleton.2 rfl, hq⟩).trans (SameBut.set ⟨_, _, _, List.mem_singleton.2 rfl, q1⟩)).trans (SameBut.set ⟨_, _, _, List.mem_singleton.2 rfl, q2⟩)).trans (SameBut.set ⟨_, _, _, List.mem_singleton.2 rfl, q3⟩)), fun b hb => ?_, fun w0 h0 hb => SinceOf.setCell (SinceOf.setCell (SinceOf.setCell (SinceOf.setCell h0 hb _) hb _) hb _) hb _⟩
  exact setCells_other q [.int .i64 x.job, .int .i64 x.mach, .int .i64 x.start, .int .i64 x.stop] (i * 4) W b hb
set_option maxRecDepth 100000 in
set_option maxHeartbeats 16000000 in
theorem deleteSlots_any (v1 : Value) (p : SlotR → Bool) (b0 : Nat) (A : Option Addr) (c : Nat) (l : List SlotR) (w : World) (h : Owns encS 4 b0 76 w A c l) (hlen : l.length ≤ 1000000) (hf : ∀ W, SameBut [76] w W → ∀ y ∈ l, Gives Tryz.prog 36 #[slotV y, v1] W (.bool (p y))) :
    Calls Tryz.prog 35 #[.slice A l.length c, .func (.func 36) #[] #[v1]] w fun e w' => e = .returned (.slice A (l.filter fun y => !p y).length c) ∧ Owns encS 4 b0 76 w' A c (l.filter fun y => !p y) ∧ SameBut [76] w w' ∧ (∀ b, blockOf A ≠ some b → b < w.heap.size → w'.heap[b]? = w.heap[b]?) ∧ (∀ w0, SinceOf w0 w → w0.heap.size ≤ b0 → SinceOf w0 w') := by
  have hr := h.isRow encS_len
  have IX := fun W (hW : SinceOf w W) => indexDrop_any v1 p A c l W (hr.of hW) (by omega) (fun W2 hW2 y hy => hf W2 (SameBut.since (hW.trans hW2)) y hy)
  have H := Lib.hid (And.intro h hf)
  clear h hf hr
  go_enter Tryz.func35, Tryz.ntmps35
  go_wp2_with fail
  refine (IX _ Sx).mono ?_
  rintro e _ ⟨r, rfl, hR, ⟨z, rfl⟩⟩
  clear IX
  rcases hR with ⟨rfl, hall⟩ | ⟨i0, rfl, hi0, hp0, hbef⟩
  · have hfl : (l.filter fun y => !p y) = l := List.filter_eq_self.2 (fun y hy => by obtain ⟨j, hj, rfl⟩ := List.getElem_of_mem hy; rw [hall j hj]; rfl)
    have HF := Lib.hid hfl
    clear hall hfl
    go_wp2_with fail
    go_returns
    rw [HF.out]
    exact ⟨rfl, H.out.1.of Sx, SameBut.since Sx, fun b _ hb => z.below.block b hb, fun w0 h0 _ => h0.trans Sx⟩
  · have hne : ¬ l = [] := by intro e; rw [e] at hi0; simp at hi0
    obtain ⟨q, rfl, hq0, hlive0⟩ := Owns.live encS_len H.out.1 (by omega)
    have hst : DelR p l i0 (i0 + 1) l := ⟨rfl, Nat.lt_succ_self _, hi0, by
      rw [List.take_succ_eq_append_getElem hi0, List.filter_append, List.filter_eq_self.2 (fun y hy => by
        obtain ⟨j, hj, rfl⟩ := List.mem_take_iff_getElem.1 hy
        rw [hbef j (by omega)]; rfl)]
      simp [hp0], rfl⟩
    have HS := Lib.hid hst
    clear hp0 hbef hst hlive0
    go_wp2_with fail
    go_loopg [5, 6] l.length (fun gas s5 s6 wr => ∃ (i j : Nat) (l' : List SlotR), l.length - j ≤ gas ∧ s5 = .int .i64 i ∧ s6 = .int .i64 j ∧ DelR p l i j l' ∧ Owns encS 4 b0 76 wr (some ⟨q, 0, none⟩) c l' ∧ SameBut [76] w wr ∧ (∀ b, q ≠ b → b < w.heap.size → wr.heap[b]? = w.heap[b]?) ∧ w.heap.size ≤ wr.heap.size ∧ (∀ w0, SinceOf w0 w → w0.heap.size ≤ b0 → SinceOf w0 wr))
    case atStart => exact ⟨i0, i0 + 1, l, by omega, rfl, by go_num, HS.out, H.out.1.of Sx, SameBut.since Sx, fun b _ hb => z.below.block b hb, z.size, fun w0 h0 _ => h0.trans Sx⟩
    case round =>
      obtain ⟨i, j, l', hgas, rfl, rfl, hd, hown, hsb, hbl, hsz, hsi⟩ := hrel
      have hjl := hd.le
      have hij := hd.lt
      have hll := hd.len
      by_cases hlt : j < l.length
      · have hlj : j < l'.length := by omega
        have hli : i < l'.length := by omega
        have hat := hd.at hlt
        have CL := fun W (hW : SinceOf wr W) => H.out.2 W (hsb.trans (SameBut.since hW)) l[j] (List.getElem_mem hlt)
        have hlive := (hown.live0 encS_len).2
        have hO := hlive.row.there
        have s0 := hlive.row.s0 j hlj
        have s1 := hlive.row.s1 j hlj
        have s2 := hlive.row.s2 j hlj
        have s3 := hlive.row.s3 j hlj
        have t0 := hlive.row.s0 i hli
        have t1 := hlive.row.s1 i hli
        have t2 := hlive.row.s2 i hli
        have t3 := hlive.row.s3 i hli
        have f0 := hlive.free (i * 4) (by omega)
        have f1 := hlive.free (i * 4 + 1) (by omega)
        have f2 := hlive.free (i * 4 + 2) (by omega)
        have f3 := hlive.free (i * 4 + 3) (by omega)
        simp only [Nat.zero_add] at s0 s1 s2 s3 t0 t1 t2 t3 f0 f1 f2 f3
        rw [hat] at s0 s1 s2 s3
        have HD := Lib.hid (And.intro hd (And.intro hown (And.intro hsb (And.intro hbl hsi))))
        have HDT := Lib.hid (fun hp : p l[j] = false => hd.take hlt hp)
        have HDS := Lib.hid (fun hp : p l[j] = true => hd.skip hlt hp)
        obtain ⟨x, hx⟩ : ∃ x, x = l[j] := ⟨_, rfl⟩
        rw [← hx] at s0 s1 s2 s3 CL HDT HDS
        generalize l'[i] = y at *
        obtain ⟨x0, x1, x2, x3⟩ := x
        simp only at s0 s1 s2 s3
        clear hlive hd hown hsb hbl hsi hat hx hll
        cases hp : p ⟨x0, x1, x2, x3⟩
        · rw [hp] at CL
          have HP := Lib.hid (HDT.out hp)
          clear hp HDT HDS
          go_wp2_with fail
          refine (CL _ Sx).calls.mono ?_
          rintro e _ ⟨rfl, z2, rfl⟩
          have hz2 := z2.size
          (try simp at hz2)
          go_wp2_with fail
          go_roundg (l.length - (j + 1))
          case measure => omega
          case rel =>
            obtain ⟨k1, k2, k3, k4⟩ := setSlot4 (W := z2.wd) (HD.out.2.1.of Sx) hli ⟨x0, x1, x2, x3⟩
            refine ⟨i + 1, j + 1, _, Nat.le_refl _, by go_num, by go_num, HP.out, k1, (HD.out.2.2.1.trans (SameBut.since Sx)).trans k2, fun b hb hlt => ?_, ?_, fun w0 h0 hb => k4 w0 ((HD.out.2.2.2.2 w0 h0 hb).trans Sx) (Nat.le_trans hb hq0)⟩
            · rw [k3 b hb]
              have : z2.wd.heap[b]? = wr.heap[b]? := (show SinceOf wr z2.wd from Sx).below.block b (by omega)
              rw [this]
              exact HD.out.2.2.2.1 b hb hlt
            · simp
              omega
        · rw [hp] at CL
          have HP := Lib.hid (HDS.out hp)
          clear hp HDT HDS
          go_wp2_with fail
          refine (CL _ Sx).calls.mono ?_
          rintro e _ ⟨rfl, z2, rfl⟩
          have hz2 := z2.size
          (try simp at hz2)
          go_wp2_with fail
          go_roundg (l.length - (j + 1))
          case measure => omega
          case rel => exact ⟨i, j + 1, l', Nat.le_refl _, rfl, by go_num, HP.out, HD.out.2.1.of Sx, HD.out.2.2.1.trans (SameBut.since Sx), fun b hb hlt => ((show SinceOf wr z2.wd from Sx).below.block b (by omega)).trans (HD.out.2.2.2.1 b hb hlt), by omega, fun w0 h0 hb => (HD.out.2.2.2.2 w0 h0 hb).trans Sx⟩
      · have hjl2 : j = l.length := by omega
        have hlive := (hown.live0 encS_len).2
        have hcap := hown.le_cap
        have hO := hlive.row.there
        have hcl : ∀ ty, (Builtin.clear_ #[39] ty #[.slice (some ⟨q, i * 4, none⟩) (l.length - i) (c - i)]).run Tryz.prog wr = .ok (.tuple #[]) (wr.setCells q (i * 4) (Builtin.zeroCells #[.int .i64 0, .int .i64 0, .int .i64 0, .int .i64 0] (l.length - i)).toList) := fun ty => run_clear_slots wr ty q (i * 4) (l.length - i) (c - i) (by omega) (fun m hm => by
          have h4 : i + m / 4 < l'.length := by omega
          have hr : m % 4 < 4 := Nat.mod_lt _ (by omega)
          obtain ⟨u, hu⟩ : ∃ u, (encS l'[i + m / 4])[m % 4]? = some u := ⟨_, List.getElem?_eq_getElem (show m % 4 < (encS l'[i + m / 4]).length from hr)⟩
          have := hlive.row.cells (i + m / 4) h4 (m % 4) u hu
          rw [show 0 + (i + m / 4) * 4 + m % 4 = i * 4 + m from by omega] at this
          rw [this]; rfl) (fun m hm => by
          have := hlive.free (i * 4 + m) (by omega)
          simpa using this)
        have hfl : (l.filter fun y => !p y).length = i := by
          have h1 := hd.kept
          rw [hjl2, List.take_length] at h1
          rw [← h1, List.length_take]
          omega
        have hft : (l.filter fun y => !p y) = l'.take i := by
          have h1 := hd.kept
          rw [hjl2, List.take_length] at h1
          exact h1.symm
        have HF := Lib.hid (And.intro hfl (And.intro hft (And.intro hown (And.intro hsb (And.intro hbl hsi)))))
        have hic : i ≤ c := by omega
        have hicn : ¬ c = i := by omega
        clear hlive hd hown hsb hbl hsi hfl hft hjl2 HS
        go_wp2_with (simp only [hcl])
        go_returns
        have hbq : ∀ b, blockOf (some (⟨q, 0, none⟩ : Addr)) ≠ some b → q ≠ b := fun b hb e => hb (by rw [← e]; rfl)
        refine ⟨by rw [HF.out.1] <;> rfl, ?_, HF.out.2.2.2.1.trans (SameBut.setCells (List.mem_singleton.2 rfl) _ _ _ (HF.out.2.2.1.typed q rfl)), fun b hb hlt => (setCells_other q _ _ _ b (hbq b hb)).trans (HF.out.2.2.2.2.1 b (hbq b hb) hlt), fun w0 h0 hb => setCells_since q (Nat.le_trans hb hq0) _ _ _ (HF.out.2.2.2.2.2 w0 h0 hb)⟩
        rw [HF.out.2.1]
        exact Owns.behindAll _ _ _ (HF.out.2.2.1.short encS_len i) (Nat.mul_le_mul_right _ (by rw [List.length_take]; exact Nat.min_le_left _ _))
end Go.Proofs.YtpaojgfmffkodaaGreat
