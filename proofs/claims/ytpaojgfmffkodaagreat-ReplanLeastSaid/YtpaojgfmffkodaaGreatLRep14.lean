/- Layer 54: copies of rows of ints, equal schedules. -/
import Derived.Test.YtpaojgfmffkodaaGreatLRep2
import Derived.Test.YtpaojgfmffkodaaGreatLSch26
import Derived.Test.YtpaojgfmffkodaaGreatLRep6b
import Derived.Test.YtpaojgfmffkodaaGreatLSl
namespace Go.Proofs.YtpaojgfmffkodaaGreat
set_option linter.unusedVariables false
set_option linter.unusedSimpArgs false
open Go.RowKit Go.Sort
attribute [local go_sem ↓] Go.wp_at_zero Go.wp_at_succ
@[go_sem] theorem eql_ints_nil (w : World) (A : Option Addr) (n c n' c' : Nat) : (binOp .eql 57 (.slice A n c) (.slice none n' c')).run Tryz.prog w = .ok (.bool A.isNone) w :=
  Lib.run_eql_slice_nil w _ _ A n c n' c' Tryz.underlying57
theorem cloneN_any (A : Option Addr) (c : Nat) (l : List Int) (w : World) (hl : IsInts w A c l) (hn : l.length * 8 ≤ 140737488355328) :
    Calls Tryz.prog 31 #[.slice A l.length c] w fun e w' => ∃ A' c', e = .returned (.slice A' l.length c') ∧ Owns encN 1 w.heap.size 3 w' A' c' l ∧ SinceOf w w' := by
  obtain ⟨i0, hi, hz0, hz1, hz2⟩ := info_parts infoInt
  cases A with
  | none =>
    obtain rfl : c = 0 := hl.1 rfl
    have hl0 : l = [] := by
      rcases hl.2 with h | ⟨g, off, h, _⟩
      · exact h
      · cases h
    subst hl0
    go_enter Tryz.func31, Tryz.ntmps31
    go_wp2_with fail
    go_returns
    exact ⟨none, 0, rfl, Owns.nil _ _ _ _ _, SinceOf.refl _⟩
  | some ad =>
    go_enter Tryz.func31, Tryz.ntmps31
    go_wp2_with (at_builtin; refine wpList_append_row rfl (.tmp 5) (.tmp 6) 57 rfl encN_len (by omega) encN_one i0 _ 8 Tryz.underlying57 hi hz0 hz1 hz2 rfl (l := []) (A := some ⟨w.heap.size, 0, none⟩) (c := 0) (base := w.heap.size) rfl (World.ownsRow_lit w #[] 0 (Nat.le_refl _) (Nat.zero_le _) rfl) (m := l) rfl (hl.of (SinceOf.alloc (SinceOf.refl w) _)) (by unfold maxLen; simp; omega) (by simpa using hn) (by simp) ?_; intro A' c' w' hown hgrow _)
    go_returns
    exact ⟨A', c', rfl, hown, ((SinceOf.refl w).alloc _).grown hgrow (by intro k hk; simp [blockOf] at hk; omega)⟩
theorem equalIn_slotR (w : World) (a0 a1 a2 a3 b0 b1 b2 b3 : Int) : (Op.equalIn 10000 77 (costV a0 a1 a2 a3) (costV b0 b1 b2 b3)).run Tryz.prog w = .ok (eqC a0 a1 a2 a3 b0 b1 b2 b3) w := by
  have u3 := Tryz.underlying3
  have a3' := Tryz.isAgg3
  have z3 := Tryz.sizeOf3
  have hS : Tryz.prog.underlying 77 = some (.struct (Tryz.prog.fieldsOf 77)) := by kernel_rfl
  have hp : Tryz.prog.stoodInHeld 77 = false := by kernel_rfl
  rw [show (10000 : Nat) = 9999 + 1 from rfl, run_equalIn_agg w 9999 77 _ _ hS hp]
  simp only [Program.fieldsOf, Tryz.underlying77]
  unfold eqC
  go_simp
  by_cases h1 : a0 = b0 <;> by_cases h2 : a1 = b1 <;> by_cases h3 : a2 = b2 <;> by_cases h4 : a3 = b3 <;> simp [h1, h2, h3, h4]
@[go_sem ↓] theorem neq_slotR (w : World) (a0 a1 a2 a3 b0 b1 b2 b3 : Int) : (binOp .neq 77 (costV a0 a1 a2 a3) (costV b0 b1 b2 b3)).run Tryz.prog w = .ok (.bool (!eqC a0 a1 a2 a3 b0 b1 b2 b3)) w := by
  rw [run_neq_struct, equalIn_slotR]; rfl
@[go_sem ↓] theorem eqGuard_slotR (w : World) (op : BinOp) (x y : Operand) (a0 a1 a2 a3 b0 b1 b2 b3 : Int) : (eqGuard op 77 x y (costV a0 a1 a2 a3) (costV b0 b1 b2 b3)).run Tryz.prog w = .ok () w :=
  run_eqGuard_agg w op _ x y _ _ (by kernel_rfl)
theorem eqC_self (a b c d : Int) : eqC a b c d a b c d = true := by unfold eqC; simp
set_option maxRecDepth 100000 in
set_option maxHeartbeats 4000000 in
theorem refSameS_any (A B : Option Addr) (c d : Nat) (l : List SlotR) (w : World) (hl : IsSlots w A c l) (hm : IsSlots w B d l) (hn : l.length < 4611686018427387904) :
    Gives Tryz.prog 49 #[.slice A l.length c, .slice B l.length d] w (.bool true) := by
  apply Gives.ret
  have H := Lib.hid (And.intro hl hm)
  clear hl hm
  go_enter Tryz.func49, Tryz.ntmps49
  go_wp2
  go_loopg [5] l.length (fun n s5 wr => ∃ k : Nat, k ≤ l.length ∧ l.length - k ≤ n ∧ s5 = .int .i64 k ∧ LaterOf w wr)
  case atStart => exact ⟨0, by omega, by omega, rfl, Lx⟩
  case round =>
    obtain ⟨k, hk, hg, rfl, ⟨z, rfl⟩⟩ := hrel
    by_cases hlt : k < l.length
    · obtain ⟨g, off, rfl, hr⟩ := (H.out.1.later z).at_ (by omega)
      obtain ⟨g2, off2, rfl, hr2⟩ := (H.out.2.later z).at_ (by omega)
      have hO := hr.there
      have hO2 := hr2.there
      have c0 := hr.s0 k hlt
      have c1 := hr.s1 k hlt
      have c2 := hr.s2 k hlt
      have c3 := hr.s3 k hlt
      have d0 := hr2.s0 k hlt
      have d1 := hr2.s1 k hlt
      have d2 := hr2.s2 k hlt
      have d3 := hr2.s3 k hlt
      clear hr hr2
      generalize l[k] = x at *
      obtain ⟨x0, x1, x2, x3⟩ := x
      simp only at c0 c1 c2 c3 d0 d1 d2 d3
      have heq := eqC_self x0 x1 x2 x3
      go_wp2_with fail
      refine region_later (by kernel_rfl) (by kernel_rfl) ?_
      repeat (go_big_quiet_step (fail))
      refine wpQuiet_nil ?_
      rintro _ ⟨z2, rfl⟩
      go_wp2_with fail
      go_roundg (l.length - (k + 1))
      case measure => omega
      case rel => exact ⟨k + 1, hlt, Nat.le_refl _, by go_num, Lx⟩
    · have hkl : k = l.length := by omega
      go_wp2_with fail
      go_returns
      exact ⟨rfl, Lx⟩
end Go.Proofs.YtpaojgfmffkodaaGreat
/- Layer 54: copying a shop. -/
namespace Go.Proofs.YtpaojgfmffkodaaGreat
set_option linter.unusedVariables false
set_option linter.unusedSimpArgs false
open Go.RowKit Go.Sort
attribute [local go_sem ↓] Go.wp_at_zero Go.wp_at_succ
def OutShop (w : World) (o : Nat) (v0 v1 v2 : Value) : Prop := w.heap[o]? = some (Obj.cells #[v0, v1, v2] 37 (0, 0))
section
variable {w w' : World} {o : Nat} {v0 v1 v2 : Value}
theorem OutShop.c0 (h : OutShop w o v0 v1 v2) : w.cell? ⟨o, 0, none⟩ = some v0 := by unfold World.cell?; rw [show w.heap[(⟨o, 0, none⟩ : Addr).block]? = _ from h]; rfl
theorem OutShop.c1 (h : OutShop w o v0 v1 v2) : w.cell? ⟨o, 1, none⟩ = some v1 := by unfold World.cell?; rw [show w.heap[(⟨o, 1, none⟩ : Addr).block]? = _ from h]; rfl
theorem OutShop.c2 (h : OutShop w o v0 v1 v2) : w.cell? ⟨o, 2, none⟩ = some v2 := by unfold World.cell?; rw [show w.heap[(⟨o, 2, none⟩ : Addr).block]? = _ from h]; rfl
theorem OutShop.free (h : OutShop w o v0 v1 v2) (i : Nat) : w.frozen? ⟨o, i, none⟩ = false := by unfold World.frozen?; rw [show w.heap[(⟨o, i, none⟩ : Addr).block]? = _ from h]; simp
theorem OutShop.lt (h : OutShop w o v0 v1 v2) : o < w.heap.size := heap_lt h
theorem OutShop.old (h : OutShop w o v0 v1 v2) : Nonempty (Old w o) := ⟨⟨h.lt⟩⟩
theorem OutShop.sameBut {es : List TypeId} (h : OutShop w o v0 v1 v2) (hs : SameBut es w w') (he : 37 ∉ es) : OutShop w' o v0 v1 v2 := hs _ _ _ _ he h
theorem OutShop.of (h : OutShop w o v0 v1 v2) (hs : SinceOf w w') : OutShop w' o v0 v1 v2 := h.sameBut (es := []) (SameBut.since hs) (by simp)
theorem OutShop.set0 (h : OutShop w o v0 v1 v2) (u : Value) : OutShop (w.setCell ⟨o, 0, none⟩ u) o u v1 v2 := by
  unfold OutShop at *
  show (w.heap.modify o _)[o]? = _
  rw [Array.getElem?_modify, if_pos rfl, h]
  rfl
theorem OutShop.set1 (h : OutShop w o v0 v1 v2) (u : Value) : OutShop (w.setCell ⟨o, 1, none⟩ u) o v0 u v2 := by
  unfold OutShop at *
  show (w.heap.modify o _)[o]? = _
  rw [Array.getElem?_modify, if_pos rfl, h]
  rfl
theorem OutShop.made (w : World) : OutShop (w.alloc (.cells #[v0, v1, v2] 37)) w.heap.size v0 v1 v2 := by
  unfold OutShop
  show (w.heap.push _)[w.heap.size]? = _
  simp
end
theorem alloc_at (W : World) (o : Obj) (n : Nat) (h : W.heap.size = n) : (W.alloc o).heap[n]? = some o := by
  subst h
  show (W.heap.push _)[W.heap.size]? = _
  simp
def cellD (w : World) (a : Addr) : Value := (w.cell? a).getD undef
theorem cellD_of {w : World} {a : Addr} {v : Value} (h : w.cell? a = some v) : cellD w a = v := by unfold cellD; rw [h]; rfl
structure OwnCals (b : Nat) (w : World) (A : Option Addr) (c : Nat) (L : List CalR) : Prop where
  row : Owns encC 3 b 83 w A c L
  all : ∀ x ∈ L, OwnIvs b w x.A x.c x.S ∧ OwnIvs b w x.B x.d x.D ∧ x.S.length ≤ 1000000 ∧ x.D.length ≤ 1000000
structure OwnRows (b : Nat) (w : World) (A : Option Addr) (c : Nat) (L : List RowR) : Prop where
  row : Owns encR 1 b 57 w A c L
  all : ∀ x ∈ L, Owns encN 1 b 3 w x.A x.c x.xs ∧ x.xs.length ≤ 1000000
section
variable {b : Nat} {w w' : World} {A : Option Addr} {c : Nat} {es : List TypeId}
theorem OwnCals.sameBut {L : List CalR} (h : OwnCals b w A c L) (hs : SameBut es w w') (h1 : 83 ∉ es) (h2 : 80 ∉ es) : OwnCals b w' A c L :=
  ⟨h.row.sameBut h1 hs, fun x hx => ⟨(h.all x hx).1.sameBut h2 hs, (h.all x hx).2.1.sameBut h2 hs, (h.all x hx).2.2⟩⟩
theorem OwnRows.sameBut {L : List RowR} (h : OwnRows b w A c L) (hs : SameBut es w w') (h1 : 57 ∉ es) (h2 : 3 ∉ es) : OwnRows b w' A c L :=
  ⟨h.row.sameBut h1 hs, fun x hx => ⟨(h.all x hx).1.sameBut h2 hs, (h.all x hx).2⟩⟩
theorem OwnCals.of {L : List CalR} (h : OwnCals b w A c L) (hs : SinceOf w w') : OwnCals b w' A c L := h.sameBut (es := []) (SameBut.since hs) (by simp) (by simp)
theorem OwnRows.of {L : List RowR} (h : OwnRows b w A c L) (hs : SinceOf w w') : OwnRows b w' A c L := h.sameBut (es := []) (SameBut.since hs) (by simp) (by simp)
theorem OwnCals.nil : OwnCals b w none 0 [] := ⟨Owns.nil _ _ _ _ _, fun x hx => by cases hx⟩
theorem OwnRows.nil : OwnRows b w none 0 [] := ⟨Owns.nil _ _ _ _ _, fun x hx => by cases hx⟩
theorem OwnCals.base_le {b2 : Nat} {L : List CalR} (h : OwnCals b w A c L) (hb : b2 ≤ b) : OwnCals b2 w A c L := ⟨h.row.base_le hb, fun x hx => ⟨(h.all x hx).1.base_le hb, (h.all x hx).2.1.base_le hb, (h.all x hx).2.2⟩⟩
theorem OwnRows.base_le {b2 : Nat} {L : List RowR} (h : OwnRows b w A c L) (hb : b2 ≤ b) : OwnRows b2 w A c L := ⟨h.row.base_le hb, fun x hx => ⟨(h.all x hx).1.base_le hb, (h.all x hx).2⟩⟩
theorem OwnCals.setOther {L : List CalR} {g i : Nat} {u : Value} (h : OwnCals b w A c L) (hg : g < b) : OwnCals b (w.setCell ⟨g, i, none⟩ u) A c L := ⟨h.row.setOther hg, fun x hx => ⟨(h.all x hx).1.setOther hg, (h.all x hx).2.1.setOther hg, (h.all x hx).2.2⟩⟩
theorem OwnRows.setOther {L : List RowR} {g i : Nat} {u : Value} (h : OwnRows b w A c L) (hg : g < b) : OwnRows b (w.setCell ⟨g, i, none⟩ u) A c L := ⟨h.row.setOther hg, fun x hx => ⟨(h.all x hx).1.setOther hg, (h.all x hx).2⟩⟩
end
theorem infoRow : (Tryz.prog.info? 57).map (fun i => (i.zero, i.size, i.bytes)) = some (some (.slice none 0 0), 1, 24) := by kernel_rfl
theorem encR_one (p : RowR) : ∀ u ∈ encR p, u.oneCell' = true := by
  intro u hu; simp [encR] at hu; subst hu; rfl
theorem rowR_at (W : World) (g : Nat) (x : RowR) (t : TypeId) (hg : W.heap.size = g) : IsRow encR 1 (W.alloc (.cells #[.slice x.A x.xs.length x.c] t)) (some ⟨g, 0, none⟩) 1 [x] := by
  subst hg; exact isRow_lit encR_len _ _ _ _ 1 [x] rfl rfl (by simp) rfl
theorem rowC_any (W : World) (g : Nat) (x : CalR) (t : TypeId) (hg : W.heap.size = g) : IsRow encC 3 (W.alloc (.cells #[.int .i64 x.P, .slice x.A x.S.length x.c, .slice x.B x.D.length x.d] t)) (some ⟨g, 0, none⟩) 1 [x] := by
  subst hg; exact isRow_lit encC_len _ _ _ _ 1 [x] rfl rfl (by simp) rfl
set_option maxRecDepth 100000 in
set_option maxHeartbeats 16000000 in
theorem copyShop_any (s : ShopR) (w : World) (hs : IsShop w s) (hcl : s.cals.length ≤ 1000000) (hrl : s.rows.length ≤ 1000000) (hS : ∀ x ∈ s.cals, x.S.length ≤ 1000000 ∧ x.D.length ≤ 1000000) (hR : ∀ x ∈ s.rows, x.xs.length ≤ 1000000) :
    Calls Tryz.prog 30 #[shopV s] w fun e w' => ∃ s' : ShopR, e = .returned (shopV s') ∧ erS s' = erS s ∧ OwnCals w.heap.size w' s'.A s'.c s'.cals ∧ OwnRows w.heap.size w' s'.B s'.d s'.rows ∧ SinceOf w w' := by
  have H := Lib.hid hs
  obtain ⟨i0, hi, hz0, hz1, hz2⟩ := info_parts infoCal
  obtain ⟨r0, ri, rz0, rz1, rz2⟩ := info_parts infoRow
  have HI := Lib.hid (And.intro hi (And.intro hz0 (And.intro hz1 hz2)))
  have RI := Lib.hid (And.intro ri (And.intro rz0 (And.intro rz1 rz2)))
  obtain ⟨sA, sc, cals, sB, sd, R, most⟩ := s
  simp only at hcl hrl hS hR
  have HS := Lib.hid (And.intro hS hR)
  clear hi hz0 hz1 hz2 ri rz0 rz1 rz2 hs hS hR
  go_enter Tryz.func30, Tryz.ntmps30
  go_wp2_with fail
  go_loopg [14] cals.length (fun gas s14 wr => ∃ (k : Nat) (cs : List CalR) (A2 : Option Addr) (c2 : Nat), k ≤ cals.length ∧ cals.length - k ≤ gas ∧ s14 = .int .i64 k ∧ cs.map erC = (cals.take k).map erC ∧ OwnCals (w.heap.size + 3) wr A2 c2 cs ∧ OutShop wr (w.heap.size + 1 + 1) (.slice A2 cs.length c2) (.slice none 0 0) (.int .i64 most) ∧ SinceOf ((w.alloc (.cells #[.slice sA cals.length sc, .slice sB R.length sd, .int .i64 most] 37)).alloc (.cells #[.slice none 0 0, .slice none 0 0, .int .i64 0] 37)) wr)
  case atStart =>
    refine ⟨0, [], none, 0, by omega, by omega, rfl, by simp, OwnCals.nil, ?_, Sx⟩
    exact alloc_at _ _ _ (by simp)
  case round =>
    obtain ⟨k, cs, A2, c2, hk, hgas, rfl, hcs, hown, hout, ⟨z, rfl⟩⟩ := hrel
    have hzs := z.size
    simp at hzs
    by_cases hlt : k < cals.length
    · obtain ⟨g, off, rfl, hr⟩ := (H.out.cals.row.of (show SinceOf w z.wd from Sx)).at_ (by show 0 < cals.length; omega)
      have hO1 := hr.there
      have j0 := hr.k0 k hlt
      have j1 := hr.k1 k hlt
      have j2 := hr.k2 k hlt
      have hic := H.out.cals.all _ (List.getElem_mem hlt)
      have hlen := HS.out.1 _ (List.getElem_mem hlt)
      have hts := List.take_succ_eq_append_getElem hlt
      have hcl2 : cs.length = k := by
        have := congrArg List.length hcs
        simp at this
        omega
      generalize cals[k] = x at *
      obtain ⟨xP, xA, xc, xS, xB, xd, xD⟩ := x
      simp only at j0 j1 j2 hic hlen
      have CS := fun W (hW : SinceOf w W) => cloneIvs_any xA xc xS W (hic.s.of hW) (by omega)
      have CD := fun W (hW : SinceOf w W) => cloneIvs_any xB xd xD W (hic.d.of hW) (by omega)
      have o0 := hout.c0
      have f0 := hout.free 0
      have hO := hout.old
      have HH := Lib.hid (And.intro hown (And.intro hcs (And.intro hts (And.intro hout (And.intro hlen hcl2)))))
      have hm1 : cs.length ≤ 1000000 := by omega
      have pa1 : Nonempty (Apart (w.heap.size + 1 + 1) z.wd.heap.size) := ⟨⟨by have := hO.elim fun q => q.lt; omega⟩⟩
      have pa2 : Nonempty (Apart z.wd.heap.size (w.heap.size + 1 + 1)) := ⟨⟨by have := hO.elim fun q => q.lt; omega⟩⟩
      have hV : ∀ W, SinceOf z.wd W → cellD W ⟨w.heap.size + 1 + 1, 0, none⟩ = .slice A2 cs.length c2 := fun W hW => cellD_of (cell_since hW o0)
      have hne2 : some z.wd.heap.size ≠ blockOf A2 := fun e => by have := (HH.out.1.row.below _ e.symm).2; omega
      clear hown hcs hts hout hr hlen hcl2 hic
      go_wp2_with fail
      refine regionL [14] (S := (fun w' => w'.cell? ⟨w.heap.size + 1 + 1, 0, none⟩ = some (.slice A2 cs.length c2) ∧ w'.cell? ⟨z.wd.heap.size, 0, none⟩ = some (.int .i64 xP) ∧ w'.cell? ⟨z.wd.heap.size, 1, none⟩ = some (.slice xA xS.length xc) ∧ w'.cell? ⟨z.wd.heap.size, 2, none⟩ = some (.slice xB xD.length xd))) (by kernel_rfl) ?_ (fun hHeld0 => ?_)
      · simp [go_sem, *]
      refine tK (i := 0) (d := some 18) (v := ?_) rfl rfl (fun _ _ _ h => h) (Or.inl ⟨by rfl, ?_⟩) (by assumption) ?_
      rotate_left 1
      · (intro w hSw; (try dsimp only at hSw); go_simp) <;> (with_reducible rfl)
      (try simp only [Act.put, List.setIfInBounds_toArray, List.set_cons_zero, List.set_cons_succ])
      refine tK (i := 1) (d := some 19) (v := ?_) rfl rfl (fun _ _ _ h => h) (Or.inl ⟨by rfl, ?_⟩) (by assumption) ?_
      rotate_left 1
      · (intro w hSw; (try dsimp only at hSw); go_simp) <;> (with_reducible rfl)
      (try simp only [Act.put, List.setIfInBounds_toArray, List.set_cons_zero, List.set_cons_succ])
      refine tK (i := 2) (d := some 20) (v := ?_) rfl rfl (fun _ _ _ h => h) (Or.inl ⟨by rfl, ?_⟩) (by assumption) ?_
      rotate_left 1
      · (intro w hSw; (try dsimp only at hSw); go_simp) <;> (with_reducible rfl)
      (try simp only [Act.put, List.setIfInBounds_toArray, List.set_cons_zero, List.set_cons_succ])
      refine tK (i := 3) (d := some 21) (v := ?_) rfl rfl (fun _ _ _ h => h) (Or.inl ⟨by rfl, ?_⟩) (by assumption) ?_
      rotate_left 1
      · (intro w hSw; (try dsimp only at hSw); go_simp) <;> (with_reducible rfl)
      (try simp only [Act.put, List.setIfInBounds_toArray, List.set_cons_zero, List.set_cons_succ])
      refine tK (i := 4) (d := some 22) (v := ?_) rfl rfl (fun _ _ _ h => h) (Or.inl ⟨by rfl, ?_⟩) (by assumption) ?_
      rotate_left 1
      · (intro w hSw; (try dsimp only at hSw); go_simp) <;> (with_reducible rfl)
      (try simp only [Act.put, List.setIfInBounds_toArray, List.set_cons_zero, List.set_cons_succ])
      refine tK (i := 5) (d := some 23) (v := ?_) rfl rfl (fun _ _ _ h => h) (Or.inl ⟨by rfl, ?_⟩) (by assumption) ?_
      rotate_left 1
      · (intro w hSw; (try dsimp only at hSw); go_simp) <;> (with_reducible rfl)
      (try simp only [Act.put, List.setIfInBounds_toArray, List.set_cons_zero, List.set_cons_succ])
      refine tK (i := 7) (d := some 25) (v := ?_) rfl rfl (fun _ _ _ h => h) (Or.inl ⟨by rfl, ?_⟩) (by assumption) ?_
      rotate_left 1
      · (intro w hSw; (try dsimp only at hSw); go_simp) <;> (with_reducible rfl)
      (try simp only [Act.put, List.setIfInBounds_toArray, List.set_cons_zero, List.set_cons_succ])
      refine tK (i := 8) (d := some 26) (v := ?_) rfl rfl (fun _ _ _ h => h) (Or.inl ⟨by rfl, ?_⟩) (by assumption) ?_
      rotate_left 1
      · (intro w hSw; (try dsimp only at hSw); go_simp) <;> (with_reducible rfl)
      (try simp only [Act.put, List.setIfInBounds_toArray, List.set_cons_zero, List.set_cons_succ])
      refine stepL (i := 6) (by kernel_rfl) rfl (fun K' hK => ?_)
      go_simp
      refine (CS _ Sx).mono ?_
      rintro e _ ⟨S1, sc1, rfl, hoS, ⟨z1, rfl⟩⟩
      have hzS := z1.size
      (try simp at hzS)
      go_wp2_with fail
      refine hK.out _ _ ?_ (fun hHeld1 => ?_)
      · simp [go_sem, hHeld0]
      clear hK K' hHeld0
      refine stepL (i := 9) (by kernel_rfl) rfl (fun K' hK => ?_)
      go_simp
      refine (CD _ Sx).mono ?_
      rintro e _ ⟨D1, sd1, rfl, hoD, ⟨z2, rfl⟩⟩
      have hzD := z2.size
      (try simp at hzD)
      go_wp2_with fail
      refine hK.out _ _ ?_ (fun hHeld2 => ?_)
      · simp [go_sem, hHeld1]
      clear hK K' hHeld1
      refine tK (i := 10) (d := some 28) (v := ?_) rfl rfl (fun _ _ _ h => h) (Or.inl ⟨by rfl, ?_⟩) (by assumption) ?_
      rotate_left 1
      · (intro w hSw; (try dsimp only at hSw); go_simp) <;> (with_reducible rfl)
      (try simp only [Act.put, List.setIfInBounds_toArray, List.set_cons_zero, List.set_cons_succ])
      refine stepL (i := 11) (by kernel_rfl) rfl (fun K' hK => ?_)
      go_simp
      refine hK.out _ _ ?_ (fun hHeld3 => ?_)
      · simp [go_sem, hHeld2]
      clear hK K' hHeld2
      refine stepL (i := 12) (by kernel_rfl) rfl (fun K' hK => ?_)
      refine step_append_row (by rfl) (.tmp 19) (.tmp 29) 35 (by rfl) encC_len (by omega) encC_one i0 _ 56 Tryz.underlying35 HI.out.1 HI.out.2.1 HI.out.2.2.1 HI.out.2.2.2 rfl (l := cs) (A := A2) (c := c2) (base := w.heap.size + 3) rfl (HH.out.1.row.of Sx) (m := [⟨xP, S1, sc1, xS, D1, sd1, xD⟩]) (by rfl) (rowC_any _ _ ⟨xP, S1, sc1, xS, D1, sd1, xD⟩ _ (by first | rfl | simp)) (by unfold maxLen; simp; omega) (by simp; omega) (by first | omega | (simp; done) | (simp; omega)) ?_
      intro A3 c3 w4 ho hgr4 hb4
      have SB := SameBut.grown (es := [83]) hgr4 (fun g5 hg5 => by obtain ⟨cur, hc⟩ := HH.out.1.row.typed g5 hg5; exact ⟨cur, _, _, List.mem_singleton.2 rfl, SameBut.since (es := []) Sx g5 cur _ _ (by simp) hc⟩)
      have hoS4 := (hoS.of Sx).sameBut (by simp) SB
      have hoD4 := (hoD.of Sx).sameBut (by simp) SB
      have hC4 : ∀ x ∈ cs, OwnIvs (w.heap.size + 3) w4 x.A x.c x.S ∧ OwnIvs (w.heap.size + 3) w4 x.B x.d x.D ∧ x.S.length ≤ 1000000 ∧ x.D.length ≤ 1000000 := fun x hx => ⟨((HH.out.1.all x hx).1.of Sx).sameBut (by simp) SB, ((HH.out.1.all x hx).2.1.of Sx).sameBut (by simp) SB, (HH.out.1.all x hx).2.2⟩
      have hs4 := (HH.out.2.2.2.1.of Sx).sameBut SB (by simp)
      have f4 := hs4.free 0
      have hO4 := hs4.old
      have n0 := hs4.c0
      have t0 : w4.cell? ⟨z.wd.heap.size, 0, none⟩ = some (.int .i64 xP) := hgr4.cell (by simp [go_sem]) hne2
      have t1 : w4.cell? ⟨z.wd.heap.size, 1, none⟩ = some (.slice xA xS.length xc) := hgr4.cell (by simp [go_sem]) hne2
      have t2 : w4.cell? ⟨z.wd.heap.size, 2, none⟩ = some (.slice xB xD.length xd) := hgr4.cell (by simp [go_sem]) hne2
      have hsi : SinceOf ((w.alloc (.cells #[.slice (some ⟨g, off, none⟩) cals.length sc, .slice sB R.length sd, .int .i64 most] 37)).alloc (.cells #[.slice none 0 0, .slice none 0 0, .int .i64 0] 37)) w4 := SinceOf.grown Sx hgr4 (fun q hq => by have := (HH.out.1.row.below q hq).1; simp; omega)
      refine hK.out _ _ ⟨n0, t0, t1, t2⟩ (fun hHeld4 => ?_)
      clear hK K' hHeld3
      refine tK (i := 13) (d := some 31) (v := ?_) rfl rfl (fun _ _ _ h => h) (Or.inl ⟨by rfl, ?_⟩) (by assumption) ?_
      rotate_left 1
      · (intro w hSw; (try dsimp only at hSw); go_simp) <;> (with_reducible rfl)
      (try simp only [Act.put, List.setIfInBounds_toArray, List.set_cons_zero, List.set_cons_succ])
      refine lastL (i := 14) (by kernel_rfl) (by rfl) rfl (fun K' hK => ?_)
      go_simp
      refine hK.out _ _ ?_
      refine doneL (by kernel_rfl) ?_ _
      go_wp2_with fail
      go_roundg (cals.length - (k + 1))
      case measure => omega
      case rel =>
        have SC := SameBut.set (es := [37]) (i := 0) (u := .slice A3 (cs.length + [(⟨xP, S1, sc1, xS, D1, sd1, xD⟩ : CalR)].length) c3) ⟨_, _, _, List.mem_singleton.2 rfl, hs4⟩
        refine ⟨k + 1, cs ++ [⟨xP, S1, sc1, xS, D1, sd1, xD⟩], A3, c3, hlt, Nat.le_refl _, by go_num, ?_, ⟨ho.sameBut (by simp) SC, fun x hx => ?_⟩, ?_, ?_⟩
        · rw [List.map_append, HH.out.2.1, HH.out.2.2.1, List.map_append]; rfl
        · rcases List.mem_append.1 hx with hx | hx
          · exact ⟨(hC4 x hx).1.sameBut (by simp) SC, (hC4 x hx).2.1.sameBut (by simp) SC, (hC4 x hx).2.2⟩
          · rw [List.mem_singleton] at hx
            subst hx
            exact ⟨(hoS4.base_le (by first | omega | (simp; omega))).sameBut (by simp) SC, (hoD4.base_le (by first | omega | (simp; omega))).sameBut (by simp) SC, HH.out.2.2.2.2.1⟩
        · rw [List.length_append]; exact hs4.set0 _
        · exact SinceOf.setCell hsi (by simp) _
    · have hkl : k = cals.length := by omega
      rw [hkl, List.take_length] at hcs
      have HH := Lib.hid (And.intro hown hcs)
      clear hown hcs hkl
      go_wp2_with fail
      go_loopg [36] R.length (fun gas s36 wr => ∃ (k : Nat) (rs : List RowR) (B2 : Option Addr) (d2 : Nat), k ≤ R.length ∧ R.length - k ≤ gas ∧ s36 = .int .i64 k ∧ rs.map erR = (R.take k).map erR ∧ OwnRows (w.heap.size + 3) wr B2 d2 rs ∧ OwnCals (w.heap.size + 3) wr A2 c2 cs ∧ OutShop wr (w.heap.size + 1 + 1) (.slice A2 cs.length c2) (.slice B2 rs.length d2) (.int .i64 most) ∧ SinceOf ((w.alloc (.cells #[.slice sA cals.length sc, .slice sB R.length sd, .int .i64 most] 37)).alloc (.cells #[.slice none 0 0, .slice none 0 0, .int .i64 0] 37)) wr)
      case atStart => exact ⟨0, [], none, 0, by omega, by omega, rfl, by simp, OwnRows.nil, HH.out.1, hout, Sx⟩
      case round =>
        obtain ⟨k2, rs, B2, d2, hk2, hgas2, rfl, hrs, hown2, hC, hout2, ⟨z2, rfl⟩⟩ := hrel
        have hzs2 := z2.size
        simp at hzs2
        have o0 := hout2.c0
        have o1 := hout2.c1
        have o2 := hout2.c2
        have f1 := hout2.free 1
        have hO2 := hout2.old
        by_cases hlt2 : k2 < R.length
        · obtain ⟨g, off, rfl, hr⟩ := (H.out.rows.row.of (show SinceOf w z2.wd from Sx)).at_ (by show 0 < R.length; omega)
          have hO1 := hr.there
          have q0 : z2.wd.cell? ⟨g, off + k2, none⟩ = some (.slice R[k2].A R[k2].xs.length R[k2].c) := by
            have := hr.cells k2 hlt2 0 _ rfl
            simpa using this
          have hir := (H.out.rows.all _ (List.getElem_mem hlt2)).1
          have hlen := HS.out.2 _ (List.getElem_mem hlt2)
          have hts := List.take_succ_eq_append_getElem hlt2
          have hrl2 : rs.length = k2 := by
            have := congrArg List.length hrs
            simp at this
            omega
          generalize R[k2] = x at *
          obtain ⟨xA, xc, xs⟩ := x
          simp only at q0 hir hlen
          have CN := fun W (hW : SinceOf w W) => cloneN_any xA xc xs W (hir.of hW) (by omega)
          have HH2 := Lib.hid (And.intro hown2 (And.intro hC (And.intro hrs (And.intro hts (And.intro hout2 (And.intro hlen hrl2))))))
          have hm1 : rs.length ≤ 1000000 := by omega
          clear hown2 hC hrs hts hout2 hr hlen hrl2 hir
          go_wp2_with fail
          have hlt3 := HH2.out.2.2.2.2.1.lt
          refine regionL [7] (S := (fun w' => w'.cell? ⟨w.heap.size + 1 + 1, 1, none⟩ = some (.slice B2 rs.length d2))) (by kernel_rfl) ?_ (fun hHeld0 => ?_)
          · simp [go_sem, *]
          refine tK (i := 0) (d := some 40) (v := ?_) rfl rfl (fun _ _ _ h => h) (Or.inl ⟨by rfl, ?_⟩) (by assumption) ?_
          rotate_left 1
          · (intro w hSw; (try dsimp only at hSw); go_simp) <;> (with_reducible rfl)
          (try simp only [Act.put, List.setIfInBounds_toArray, List.set_cons_zero, List.set_cons_succ])
          refine tK (i := 1) (d := some 41) (v := ?_) rfl rfl (fun _ _ _ h => h) (Or.inl ⟨by rfl, ?_⟩) (by assumption) ?_
          rotate_left 1
          · (intro w hSw; (try dsimp only at hSw); go_simp) <;> (with_reducible rfl)
          (try simp only [Act.put, List.setIfInBounds_toArray, List.set_cons_zero, List.set_cons_succ])
          refine tK (i := 2) (d := some 42) (v := ?_) rfl rfl (fun _ _ _ h => h) (Or.inl ⟨by rfl, ?_⟩) (by assumption) ?_
          rotate_left 1
          · (intro w hSw; (try dsimp only at hSw); go_simp) <;> (with_reducible rfl)
          (try simp only [Act.put, List.setIfInBounds_toArray, List.set_cons_zero, List.set_cons_succ])
          refine stepL (i := 3) (by kernel_rfl) rfl (fun K' hK => ?_)
          go_simp
          refine (CN _ Sx).mono ?_
          rintro e _ ⟨S1, sc1, rfl, hoS, ⟨z1, rfl⟩⟩
          have hzS := z1.size
          (try simp at hzS)
          go_wp2_with fail
          refine hK.out _ _ ?_ (fun hHeld1 => ?_)
          · simp [go_sem, hHeld0]
          clear hK K' hHeld0
          refine stepL (i := 4) (by kernel_rfl) rfl (fun K' hK => ?_)
          go_simp
          refine hK.out _ _ ?_ (fun hHeld2 => ?_)
          · simp [go_sem, hHeld1]
          clear hK K' hHeld1
          refine stepL (i := 5) (by kernel_rfl) rfl (fun K' hK => ?_)
          refine step_append_row (by rfl) (.tmp 41) (.tmp 44) 23 (by rfl) encR_len (by omega) encR_one r0 _ 24 Tryz.underlying23 RI.out.1 RI.out.2.1 RI.out.2.2.1 RI.out.2.2.2 rfl (l := rs) (A := B2) (c := d2) (base := w.heap.size + 3) rfl (HH2.out.1.row.of Sx) (m := [⟨S1, sc1, xs⟩]) (by rfl) (rowR_at _ _ ⟨S1, sc1, xs⟩ _ (by first | rfl | simp)) (by unfold maxLen; simp; omega) (by simp; omega) (by first | omega | (simp; done) | (simp; omega)) ?_
          intro A3 c3 w4 ho hgr4 hb4
          have SB := SameBut.grown (es := [57]) hgr4 (fun g5 hg5 => by obtain ⟨cur, hc⟩ := HH2.out.1.row.typed g5 hg5; exact ⟨cur, _, _, List.mem_singleton.2 rfl, SameBut.since (es := []) Sx g5 cur _ _ (by simp) hc⟩)
          have hoS4 := (hoS.of Sx).sameBut (by simp) SB
          have hR4 : ∀ x ∈ rs, Owns encN 1 (w.heap.size + 3) 3 w4 x.A x.c x.xs ∧ x.xs.length ≤ 1000000 := fun x hx => ⟨((HH2.out.1.all x hx).1.of Sx).sameBut (by simp) SB, (HH2.out.1.all x hx).2⟩
          have hC4 := (HH2.out.2.1.of Sx).sameBut SB (by simp) (by simp)
          have hs4 := (HH2.out.2.2.2.2.1.of Sx).sameBut SB (by simp)
          have f4 := hs4.free 1
          have hO4 := hs4.old
          have n1 := hs4.c1
          have hsi : SinceOf ((w.alloc (.cells #[.slice sA cals.length sc, .slice (some ⟨g, off, none⟩) R.length sd, .int .i64 most] 37)).alloc (.cells #[.slice none 0 0, .slice none 0 0, .int .i64 0] 37)) w4 := SinceOf.grown Sx hgr4 (fun q hq => by have := (HH2.out.1.row.below q hq).1; simp; omega)
          refine hK.out _ _ n1 (fun hHeld3 => ?_)
          clear hK K' hHeld2
          refine tK (i := 6) (d := some 46) (v := ?_) rfl rfl (fun _ _ _ h => h) (Or.inl ⟨by rfl, ?_⟩) (by assumption) ?_
          rotate_left 1
          · (intro w hSw; (try dsimp only at hSw); go_simp) <;> (with_reducible rfl)
          (try simp only [Act.put, List.setIfInBounds_toArray, List.set_cons_zero, List.set_cons_succ])
          refine lastL (i := 7) (by kernel_rfl) (by rfl) rfl (fun K' hK => ?_)
          go_simp
          refine hK.out _ _ ?_
          refine doneL (by kernel_rfl) ?_ _
          go_wp2_with fail
          go_roundg (R.length - (k2 + 1))
          case measure => omega
          case rel =>
            have SC := SameBut.set (es := [37]) (i := 1) (u := .slice A3 (rs.length + [(⟨S1, sc1, xs⟩ : RowR)].length) c3) ⟨_, _, _, List.mem_singleton.2 rfl, hs4⟩
            refine ⟨k2 + 1, rs ++ [⟨S1, sc1, xs⟩], A3, c3, hlt2, Nat.le_refl _, by go_num, ?_, ⟨ho.sameBut (by simp) SC, fun x hx => ?_⟩, hC4.sameBut SC (by simp) (by simp), ?_, ?_⟩
            · rw [List.map_append, HH2.out.2.2.1, HH2.out.2.2.2.1, List.map_append]; rfl
            · rcases List.mem_append.1 hx with hx | hx
              · exact ⟨(hR4 x hx).1.sameBut (by simp) SC, (hR4 x hx).2⟩
              · rw [List.mem_singleton] at hx
                subst hx
                exact ⟨(hoS4.base_le (by first | omega | (simp; omega))).sameBut (by simp) SC, HH2.out.2.2.2.2.2.1⟩
            · rw [List.length_append]; exact hs4.set1 _
            · exact SinceOf.setCell hsi (by simp) _
        · have hkl : k2 = R.length := by omega
          rw [hkl, List.take_length] at hrs
          have HF := Lib.hid (And.intro hC (And.intro hown2 hrs))
          clear hC hown2 hrs hkl hout2 hout
          go_wp2_with fail
          go_returns
          have hlt1 : w.heap.size + 1 < w.heap.size + 3 := by omega
          refine ⟨⟨A2, c2, cs, B2, d2, rs, most⟩, rfl, ?_, (((HF.out.1.setOther hlt1).setOther hlt1).setOther hlt1).base_le (by omega), (((HF.out.2.1.setOther hlt1).setOther hlt1).setOther hlt1).base_le (by omega), Sx⟩
          unfold erS
          simp only
          rw [HF.out.2.2, HH.out.2]
end Go.Proofs.YtpaojgfmffkodaaGreat
/- Layer 54: a state of changes in memory. -/
namespace Go.Proofs.YtpaojgfmffkodaaGreat
set_option linter.unusedVariables false
set_option linter.unusedSimpArgs false
open Go.RowKit Go.Sort
theorem Owns.putAt {α : Type} {enc : α → List Value} {k base : Nat} {e : TypeId} {w : World} {c g : Nat} {l : List α} (hk : ∀ x, (enc x).length = k) (hk0 : 0 < k) (h : Owns enc k base e w (some ⟨g, 0, none⟩) c l) (i : Nat) (hi : i < l.length) (j : Nat) (hj : j < k) (u : Value) (y : α) (hy : enc y = (enc l[i]).set j u) :
    Owns enc k base e (w.setCell ⟨g, i * k + j, none⟩ u) (some ⟨g, 0, none⟩) c (l.set i y) := by
  obtain ⟨h1, -⟩ := World.ownsRow.stored h (i * k + j) u
  unfold Owns
  rw [List.length_set]
  have e1 : (l.flatMap enc).set (i * k + j) u = (l.set i y).flatMap enc := by
    apply List.ext_getElem?
    intro m
    by_cases hm : m < l.length * k
    · have hq : m / k < l.length := Nat.div_lt_of_lt_mul (by rw [Nat.mul_comm]; exact hm)
      have hr : m % k < k := Nat.mod_lt _ hk0
      have hb := flat_get hk (l.set i y) (m / k) (by rw [List.length_set]; exact hq) (m % k) hr
      have ha := flat_get hk l (m / k) hq (m % k) hr
      rw [Nat.div_add_mod'] at ha hb
      rw [hb, List.getElem?_set]
      by_cases e : i * k + j = m
      · have d1 : m / k = i := by rw [← e, Nat.mul_comm, Nat.mul_add_div hk0, Nat.div_eq_of_lt hj, Nat.add_zero]
        have d2 : m % k = j := by rw [← e, Nat.mul_comm, Nat.mul_add_mod, Nat.mod_eq_of_lt hj]
        rw [if_pos e, if_pos (by rw [flat_length hk, e]; exact hm)]
        simp only [d1, d2, List.getElem_set_self, hy, List.getElem?_set]
        simp [hk, hj]
      · rw [if_neg e, ha]
        by_cases e4 : m / k = i
        · have e5 : ¬ j = m % k := fun e5 => e (by rw [e5, ← e4, Nat.div_add_mod'])
          simp only [e4, List.getElem_set_self, hy, List.getElem?_set]
          rw [if_neg e5]
        · rw [List.getElem_set_ne (by omega)]
    · rw [List.getElem?_eq_none (by rw [List.length_set, flat_length hk]; omega), List.getElem?_eq_none (by rw [flat_length hk, List.length_set]; omega)]
  rw [← e1]; exact h1
structure ChAt (w : World) (b0 g : Nat) (now : Int) (x : StR) : Prop where
  base : b0 ≤ g
  cell : w.heap[g]? = some (Obj.cells #[.slice x.s.A x.s.cals.length x.s.c, .slice x.s.B x.s.rows.length x.s.d, .int .i64 x.s.most, .slice x.A x.L.length x.c, .slice x.gA x.bg.length x.gc, .slice x.pA x.pd.length x.pc, .slice x.dA x.dr.length x.dc, .int .i64 now] 92 (0, 0))
  cals : OwnCals b0 w x.s.A x.s.c x.s.cals
  rows : OwnRows b0 w x.s.B x.s.d x.s.rows
  jobs : Owns encJ 6 b0 85 w x.A x.c x.L
  jobsI : ∀ j ∈ x.L, Owns encN 1 b0 3 w j.A j.c j.ms ∧ j.ms.length ≤ 1000000
  bg : Owns encS 4 b0 76 w x.gA x.gc x.bg
  pd : Owns encS 4 b0 76 w x.pA x.pc x.pd
  dr : Owns encB 1 b0 4 w x.dA x.dc x.dr
  apart : ∀ b, blockOf x.gA = some b → blockOf x.pA ≠ some b
section
variable {w w' : World} {b0 g : Nat} {now : Int} {x : StR} {es : List TypeId}
theorem ChAt.sameBut (h : ChAt w b0 g now x) (hs : SameBut es w w') (h0 : 92 ∉ es) (h1 : 83 ∉ es) (h2 : 80 ∉ es) (h3 : 57 ∉ es) (h4 : 3 ∉ es) (h5 : 85 ∉ es) (h6 : 76 ∉ es) (h7 : 4 ∉ es) : ChAt w' b0 g now x :=
  ⟨h.base, hs g _ _ _ h0 h.cell, h.cals.sameBut hs h1 h2, h.rows.sameBut hs h3 h4, h.jobs.sameBut h5 hs, fun j hj => ⟨(h.jobsI j hj).1.sameBut h4 hs, (h.jobsI j hj).2⟩, h.bg.sameBut h6 hs, h.pd.sameBut h6 hs, h.dr.sameBut h7 hs, h.apart⟩
theorem ChAt.of (h : ChAt w b0 g now x) (hs : SinceOf w w') : ChAt w' b0 g now x :=
  h.sameBut (es := []) (SameBut.since hs) (by simp) (by simp) (by simp) (by simp) (by simp) (by simp) (by simp) (by simp)
theorem cell_of {w : World} {g i : Nat} {cur : Array Value} {e : TypeId} {v : Value} (h : w.heap[g]? = some (Obj.cells cur e (0, 0))) (hv : cur[i]? = some v) : w.cell? ⟨g, i, none⟩ = some v := by
  unfold World.cell?
  rw [show w.heap[(⟨g, i, none⟩ : Addr).block]? = _ from h]
  exact hv
theorem free_of {w : World} {g : Nat} {cur : Array Value} {e : TypeId} (h : w.heap[g]? = some (Obj.cells cur e (0, 0))) (i : Nat) : w.frozen? ⟨g, i, none⟩ = false := by
  unfold World.frozen?
  rw [show w.heap[(⟨g, i, none⟩ : Addr).block]? = _ from h]
  simp
theorem ChAt.c0 (h : ChAt w b0 g now x) : w.cell? ⟨g, 0, none⟩ = some (.slice x.s.A x.s.cals.length x.s.c) := cell_of h.cell rfl
theorem ChAt.c1 (h : ChAt w b0 g now x) : w.cell? ⟨g, 1, none⟩ = some (.slice x.s.B x.s.rows.length x.s.d) := cell_of h.cell rfl
theorem ChAt.c2 (h : ChAt w b0 g now x) : w.cell? ⟨g, 2, none⟩ = some (.int .i64 x.s.most) := cell_of h.cell rfl
theorem ChAt.c3 (h : ChAt w b0 g now x) : w.cell? ⟨g, 3, none⟩ = some (.slice x.A x.L.length x.c) := cell_of h.cell rfl
theorem ChAt.c4 (h : ChAt w b0 g now x) : w.cell? ⟨g, 4, none⟩ = some (.slice x.gA x.bg.length x.gc) := cell_of h.cell rfl
theorem ChAt.c5 (h : ChAt w b0 g now x) : w.cell? ⟨g, 5, none⟩ = some (.slice x.pA x.pd.length x.pc) := cell_of h.cell rfl
theorem ChAt.c6 (h : ChAt w b0 g now x) : w.cell? ⟨g, 6, none⟩ = some (.slice x.dA x.dr.length x.dc) := cell_of h.cell rfl
theorem ChAt.c7 (h : ChAt w b0 g now x) : w.cell? ⟨g, 7, none⟩ = some (.int .i64 now) := cell_of h.cell rfl
theorem ChAt.free (h : ChAt w b0 g now x) (i : Nat) : w.frozen? ⟨g, i, none⟩ = false := free_of h.cell i
theorem ChAt.old (h : ChAt w b0 g now x) : Nonempty (Old w g) := ⟨⟨heap_lt h.cell⟩⟩
theorem set_block {w : World} {g i : Nat} {cur : Array Value} {e : TypeId} (h : w.heap[g]? = some (Obj.cells cur e (0, 0))) (u : Value) : (w.setCell ⟨g, i, none⟩ u).heap[g]? = some (Obj.cells (cur.setIfInBounds i u) e (0, 0)) := by
  show (w.heap.modify g _)[g]? = _
  rw [Array.getElem?_modify, if_pos rfl, h]
  first | rfl | (simp [Obj.setCell]; done)
theorem ChAt.shop (h : ChAt w b0 g now x) (hc : x.s.cals.length < 4611686018427387904) (hr : x.s.rows.length < 4611686018427387904) : IsShop w x.s :=
  ⟨⟨h.cals.row.isRow encC_len, fun y hy => ⟨rfl, rfl, (h.cals.all y hy).1.isRow encV_len, (h.cals.all y hy).2.1.isRow encV_len, by have := (h.cals.all y hy).2.2.1; omega, by have := (h.cals.all y hy).2.2.2; omega⟩, hc⟩,
   ⟨h.rows.row.isRow encR_len, fun y hy => ⟨(h.rows.all y hy).1.isRow encN_len, by have := (h.rows.all y hy).2; omega⟩, hr⟩⟩
theorem ChAt.pushJob (h : ChAt w b0 g now x) {j : JobR} (hj : Owns encN 1 b0 3 w j.A j.c j.ms) (hm : j.ms.length ≤ 1000000) {A' : Option Addr} {c' : Nat} (ho : Owns encJ 6 b0 85 w' A' c' (x.L ++ [j])) (hgr : w.grownBy w' (blockOf x.A)) :
    ChAt (w'.setCell ⟨g, 3, none⟩ (.slice A' (x.L ++ [j]).length c')) b0 g now ⟨x.s, A', c', x.L ++ [j], x.gA, x.gc, x.bg, x.pA, x.pc, x.pd, x.dA, x.dc, x.dr⟩ := by
  have SB := SameBut.grown (es := [85]) hgr (fun g5 hg5 => by obtain ⟨cur, hc⟩ := h.jobs.typed g5 hg5; exact ⟨cur, _, _, List.mem_singleton.2 rfl, hc⟩)
  have hc' := SB g _ _ _ (by simp) h.cell
  have SC : SameBut [92] w' (w'.setCell ⟨g, 3, none⟩ (.slice A' (x.L ++ [j]).length c')) := SameBut.set ⟨_, _, _, List.mem_singleton.2 rfl, hc'⟩
  refine ⟨h.base, set_block hc' _, (h.cals.sameBut SB (by simp) (by simp)).sameBut SC (by simp) (by simp), (h.rows.sameBut SB (by simp) (by simp)).sameBut SC (by simp) (by simp), ho.sameBut (by simp) SC, fun i hi => ?_, (h.bg.sameBut (by simp) SB).sameBut (by simp) SC, (h.pd.sameBut (by simp) SB).sameBut (by simp) SC, (h.dr.sameBut (by simp) SB).sameBut (by simp) SC, h.apart⟩
  rcases List.mem_append.1 hi with hi | hi
  · exact ⟨((h.jobsI i hi).1.sameBut (by simp) SB).sameBut (by simp) SC, (h.jobsI i hi).2⟩
  · rw [List.mem_singleton] at hi
    subst hi
    exact ⟨(hj.sameBut (by simp) SB).sameBut (by simp) SC, hm⟩
theorem ChAt.pushBegun (h : ChAt w b0 g now x) {v : SlotR} {A' : Option Addr} {c' : Nat} (ho : Owns encS 4 b0 76 w' A' c' (x.bg ++ [v])) (hgr : w.grownBy w' (blockOf x.gA)) (hb : blockOf A' = blockOf x.gA ∨ blockOf A' = some w.heap.size) :
    ChAt (w'.setCell ⟨g, 4, none⟩ (.slice A' (x.bg ++ [v]).length c')) b0 g now ⟨x.s, x.A, x.c, x.L, A', c', x.bg ++ [v], x.pA, x.pc, x.pd, x.dA, x.dc, x.dr⟩ := by
  have SB := SameBut.grown (es := [76]) hgr (fun g5 hg5 => by obtain ⟨cur, hc⟩ := h.bg.typed g5 hg5; exact ⟨cur, _, _, List.mem_singleton.2 rfl, hc⟩)
  have hc' := SB g _ _ _ (by simp) h.cell
  have SC : SameBut [92] w' (w'.setCell ⟨g, 4, none⟩ (.slice A' (x.bg ++ [v]).length c')) := SameBut.set ⟨_, _, _, List.mem_singleton.2 rfl, hc'⟩
  have hpd : Owns encS 4 b0 76 w' x.pA x.pc x.pd := h.pd.kept hgr (by
    cases e : blockOf x.pA with
    | none => exact .inl rfl
    | some b => exact .inr fun e2 => h.apart b e2.symm e)
  refine ⟨h.base, set_block hc' _, (h.cals.sameBut SB (by simp) (by simp)).sameBut SC (by simp) (by simp), (h.rows.sameBut SB (by simp) (by simp)).sameBut SC (by simp) (by simp), (h.jobs.sameBut (by simp) SB).sameBut (by simp) SC, fun i hi => ⟨((h.jobsI i hi).1.sameBut (by simp) SB).sameBut (by simp) SC, (h.jobsI i hi).2⟩, ho.sameBut (by simp) SC, hpd.sameBut (by simp) SC, (h.dr.sameBut (by simp) SB).sameBut (by simp) SC, fun b hb2 e => ?_⟩
  rcases hb with hb | hb
  · exact h.apart b (by rw [← hb]; exact hb2) e
  · have := (h.pd.below b e).2
    have hb3 : blockOf A' = some b := hb2
    rw [hb] at hb3
    injection hb3 with hb3
    omega
theorem ChAt.pushPend (h : ChAt w b0 g now x) {v : SlotR} {A' : Option Addr} {c' : Nat} (ho : Owns encS 4 b0 76 w' A' c' (x.pd ++ [v])) (hgr : w.grownBy w' (blockOf x.pA)) (hb : blockOf A' = blockOf x.pA ∨ blockOf A' = some w.heap.size) :
    ChAt (w'.setCell ⟨g, 5, none⟩ (.slice A' (x.pd ++ [v]).length c')) b0 g now ⟨x.s, x.A, x.c, x.L, x.gA, x.gc, x.bg, A', c', x.pd ++ [v], x.dA, x.dc, x.dr⟩ := by
  have SB := SameBut.grown (es := [76]) hgr (fun g5 hg5 => by obtain ⟨cur, hc⟩ := h.pd.typed g5 hg5; exact ⟨cur, _, _, List.mem_singleton.2 rfl, hc⟩)
  have hc' := SB g _ _ _ (by simp) h.cell
  have SC : SameBut [92] w' (w'.setCell ⟨g, 5, none⟩ (.slice A' (x.pd ++ [v]).length c')) := SameBut.set ⟨_, _, _, List.mem_singleton.2 rfl, hc'⟩
  have hbg : Owns encS 4 b0 76 w' x.gA x.gc x.bg := h.bg.kept hgr (by
    cases e : blockOf x.gA with
    | none => exact .inl rfl
    | some b => exact .inr fun e2 => h.apart b e e2.symm)
  refine ⟨h.base, set_block hc' _, (h.cals.sameBut SB (by simp) (by simp)).sameBut SC (by simp) (by simp), (h.rows.sameBut SB (by simp) (by simp)).sameBut SC (by simp) (by simp), (h.jobs.sameBut (by simp) SB).sameBut (by simp) SC, fun i hi => ⟨((h.jobsI i hi).1.sameBut (by simp) SB).sameBut (by simp) SC, (h.jobsI i hi).2⟩, hbg.sameBut (by simp) SC, ho.sameBut (by simp) SC, (h.dr.sameBut (by simp) SB).sameBut (by simp) SC, fun b hb2 e => ?_⟩
  rcases hb with hb | hb
  · exact h.apart b hb2 (by rw [← hb]; exact e)
  · have := (h.bg.below b hb2).2
    have hb3 : blockOf A' = some b := e
    rw [hb] at hb3
    injection hb3 with hb3
    omega
theorem ChAt.setDrop (h : ChAt w b0 g now x) {q : Nat} (hA : x.dA = some ⟨q, 0, none⟩) {i : Nat} (hi : i < x.dr.length) (v : Bool) :
    ChAt (w.setCell ⟨q, i, none⟩ (.bool v)) b0 g now ⟨x.s, x.A, x.c, x.L, x.gA, x.gc, x.bg, x.pA, x.pc, x.pd, x.dA, x.dc, x.dr.set i v⟩ := by
  obtain ⟨cur, hq⟩ := h.dr.typed q (by rw [hA]; rfl)
  have SC : SameBut [4] w (w.setCell ⟨q, i, none⟩ (.bool v)) := SameBut.set ⟨_, _, _, List.mem_singleton.2 rfl, hq⟩
  have hd := h.dr
  rw [hA] at hd
  have h1 := hd.putAt encB_len (by omega) i hi 0 (by omega) (.bool v) v rfl
  rw [Nat.mul_one, Nat.add_zero] at h1
  refine ⟨h.base, ?_, h.cals.sameBut SC (by simp) (by simp), h.rows.sameBut SC (by simp) (by simp), h.jobs.sameBut (by simp) SC, fun i hi => ⟨(h.jobsI i hi).1.sameBut (by simp) SC, (h.jobsI i hi).2⟩, h.bg.sameBut (by simp) SC, h.pd.sameBut (by simp) SC, ?_, h.apart⟩
  · have := SC g _ _ _ (by simp) h.cell
    simpa using this
  · show Owns encB 1 b0 _ _ x.dA x.dc _
    rw [hA]
    exact h1
theorem ChAt.setRel (h : ChAt w b0 g now x) {q : Nat} (hA : x.A = some ⟨q, 0, none⟩) {i : Nat} (hi : i < x.L.length) (v : Int) :
    ChAt (w.setCell ⟨q, i * 6 + 3, none⟩ (.int .i64 v)) b0 g now ⟨x.s, x.A, x.c, x.L.set i ⟨x.L[i].A, x.L[i].c, x.L[i].ms, x.L[i].dur, x.L[i].cls, v, x.L[i].due, x.L[i].ord⟩, x.gA, x.gc, x.bg, x.pA, x.pc, x.pd, x.dA, x.dc, x.dr⟩ := by
  obtain ⟨cur, hq⟩ := h.jobs.typed q (by rw [hA]; rfl)
  have SC : SameBut [85] w (w.setCell ⟨q, i * 6 + 3, none⟩ (.int .i64 v)) := SameBut.set ⟨_, _, _, List.mem_singleton.2 rfl, hq⟩
  have hd := h.jobs
  rw [hA] at hd
  have h1 := hd.putAt encJ_len (by omega) i hi 3 (by omega) (.int .i64 v) ⟨x.L[i].A, x.L[i].c, x.L[i].ms, x.L[i].dur, x.L[i].cls, v, x.L[i].due, x.L[i].ord⟩ rfl
  refine ⟨h.base, ?_, h.cals.sameBut SC (by simp) (by simp), h.rows.sameBut SC (by simp) (by simp), ?_, fun j hj => ?_, h.bg.sameBut (by simp) SC, h.pd.sameBut (by simp) SC, h.dr.sameBut (by simp) SC, h.apart⟩
  · have := SC g _ _ _ (by simp) h.cell
    simpa using this
  · show Owns encJ 6 b0 _ _ x.A x.c _
    rw [hA]
    exact h1
  · rcases List.mem_or_eq_of_mem_set hj with hj | rfl
    · exact ⟨(h.jobsI j hj).1.sameBut (by simp) SC, (h.jobsI j hj).2⟩
    · have := h.jobsI _ (List.getElem_mem hi)
      exact ⟨this.1.sameBut (by simp) SC, this.2⟩
theorem ChAt.setEnd (h : ChAt w b0 g now x) {q : Nat} (hA : x.gA = some ⟨q, 0, none⟩) {i : Nat} (hi : i < x.bg.length) (v : Int) :
    ChAt (w.setCell ⟨q, i * 4 + 3, none⟩ (.int .i64 v)) b0 g now ⟨x.s, x.A, x.c, x.L, x.gA, x.gc, x.bg.set i ⟨x.bg[i].job, x.bg[i].mach, x.bg[i].start, v⟩, x.pA, x.pc, x.pd, x.dA, x.dc, x.dr⟩ := by
  obtain ⟨cur, hq⟩ := h.bg.typed q (by rw [hA]; rfl)
  have SC : SameBut [76] w (w.setCell ⟨q, i * 4 + 3, none⟩ (.int .i64 v)) := SameBut.set ⟨_, _, _, List.mem_singleton.2 rfl, hq⟩
  have hd := h.bg
  rw [hA] at hd
  have h1 := hd.putAt encS_len (by omega) i hi 3 (by omega) (.int .i64 v) ⟨x.bg[i].job, x.bg[i].mach, x.bg[i].start, v⟩ rfl
  refine ⟨h.base, ?_, h.cals.sameBut SC (by simp) (by simp), h.rows.sameBut SC (by simp) (by simp), h.jobs.sameBut (by simp) SC, fun i hi => ⟨(h.jobsI i hi).1.sameBut (by simp) SC, (h.jobsI i hi).2⟩, ?_, h.pd.setNe (fun b hb e => h.apart q (by rw [hA]; rfl) (by rw [hb, e])), h.dr.sameBut (by simp) SC, h.apart⟩
  · have := SC g _ _ _ (by simp) h.cell
    simpa using this
  · show Owns encS 4 b0 _ _ x.gA x.gc _
    rw [hA]
    exact h1
theorem ChAt.setCal (h : ChAt w b0 g now x) {q : Nat} (hA : x.s.A = some ⟨q, 0, none⟩) {i : Nat} (hi : i < x.s.cals.length) (K : CalR) (hK : OwnIvs b0 w K.A K.c K.S ∧ OwnIvs b0 w K.B K.d K.D ∧ K.S.length ≤ 1000000 ∧ K.D.length ≤ 1000000) :
    ChAt (((w.setCell ⟨q, i * 3, none⟩ (.int .i64 K.P)).setCell ⟨q, i * 3 + 1, none⟩ (.slice K.A K.S.length K.c)).setCell ⟨q, i * 3 + 2, none⟩ (.slice K.B K.D.length K.d)) b0 g now ⟨⟨x.s.A, x.s.c, x.s.cals.set i K, x.s.B, x.s.d, x.s.rows, x.s.most⟩, x.A, x.c, x.L, x.gA, x.gc, x.bg, x.pA, x.pc, x.pd, x.dA, x.dc, x.dr⟩ := by
  obtain ⟨cur, hq⟩ := h.cals.row.typed q (by rw [hA]; rfl)
  have S1 : SameBut [83] w (w.setCell ⟨q, i * 3, none⟩ (.int .i64 K.P)) := SameBut.set ⟨_, _, _, List.mem_singleton.2 rfl, hq⟩
  have hq1 := set_block (i := i * 3) hq (.int .i64 K.P)
  have S2 : SameBut [83] _ ((w.setCell ⟨q, i * 3, none⟩ (.int .i64 K.P)).setCell ⟨q, i * 3 + 1, none⟩ (.slice K.A K.S.length K.c)) := SameBut.set ⟨_, _, _, List.mem_singleton.2 rfl, hq1⟩
  have hq2 := set_block (i := i * 3 + 1) hq1 (.slice K.A K.S.length K.c)
  have S3 : SameBut [83] _ (((w.setCell ⟨q, i * 3, none⟩ (.int .i64 K.P)).setCell ⟨q, i * 3 + 1, none⟩ (.slice K.A K.S.length K.c)).setCell ⟨q, i * 3 + 2, none⟩ (.slice K.B K.D.length K.d)) := SameBut.set ⟨_, _, _, List.mem_singleton.2 rfl, hq2⟩
  have SC := (S1.trans S2).trans S3
  have hd := h.cals.row
  rw [hA] at hd
  have h1 := hd.putAt encC_len (by omega) i hi 0 (by omega) (.int .i64 K.P) ⟨K.P, x.s.cals[i].A, x.s.cals[i].c, x.s.cals[i].S, x.s.cals[i].B, x.s.cals[i].d, x.s.cals[i].D⟩ rfl
  have h2 := h1.putAt encC_len (by omega) i (by simpa using hi) 1 (by omega) (.slice K.A K.S.length K.c) ⟨K.P, K.A, K.c, K.S, x.s.cals[i].B, x.s.cals[i].d, x.s.cals[i].D⟩ (by rw [List.getElem_set_self]; rfl)
  have h3 := h2.putAt encC_len (by omega) i (by simpa using hi) 2 (by omega) (.slice K.B K.D.length K.d) K (by rw [List.getElem_set_self]; rfl)
  rw [List.set_set, List.set_set, Nat.add_zero] at h3
  refine ⟨h.base, ?_, ⟨?_, fun y hy => ?_⟩, h.rows.sameBut SC (by simp) (by simp), h.jobs.sameBut (by simp) SC, fun i hi => ⟨(h.jobsI i hi).1.sameBut (by simp) SC, (h.jobsI i hi).2⟩, h.bg.sameBut (by simp) SC, h.pd.sameBut (by simp) SC, h.dr.sameBut (by simp) SC, h.apart⟩
  · have := SC g _ _ _ (by simp) h.cell
    simpa using this
  · show Owns encC 3 b0 _ _ x.s.A x.s.c _
    rw [hA]
    exact h3
  · rcases List.mem_or_eq_of_mem_set hy with hy | rfl
    · exact ⟨(h.cals.all y hy).1.sameBut (by simp) SC, (h.cals.all y hy).2.1.sameBut (by simp) SC, (h.cals.all y hy).2.2⟩
    · exact ⟨hK.1.sameBut (by simp) SC, hK.2.1.sameBut (by simp) SC, hK.2.2⟩
end
end Go.Proofs.YtpaojgfmffkodaaGreat
/- Layer 54: closing a machine, events about jobs. -/
namespace Go.Proofs.YtpaojgfmffkodaaGreat
set_option linter.unusedVariables false
set_option linter.unusedSimpArgs false
open Go.RowKit Go.Sort
attribute [local go_sem ↓] Go.wp_at_zero Go.wp_at_succ
abbrev evV (v : EvR) : Value := .agg #[.int .i64 v.kind, .int .i64 v.mach, .int .i64 v.frm, .int .i64 v.till, .int .i64 v.job]
def chT : List TypeId := [92, 83, 85, 4]
structure Beyond (b0 : Nat) (w w' : World) : Prop where
  size : w.heap.size ≤ w'.heap.size
  since : ∀ w0, SinceOf w0 w → w0.heap.size ≤ b0 → SinceOf w0 w'
  same : SameBut chT w w'
theorem Beyond.of {b0 : Nat} {w w' : World} (h : SinceOf w w') : Beyond b0 w w' := ⟨by obtain ⟨z, rfl⟩ := h; exact z.size, fun w0 h0 _ => h0.trans h, SameBut.since h⟩
theorem Beyond.trans {b0 : Nat} {a b c : World} (h : Beyond b0 a b) (k : Beyond b0 b c) : Beyond b0 a c := ⟨Nat.le_trans h.size k.size, fun w0 h0 hb => k.since w0 (h.since w0 h0 hb) hb, h.same.trans k.same⟩
theorem Beyond.set {b0 g i : Nat} {w : World} {u : Value} (hg : b0 ≤ g) {cur : Array Value} {e : TypeId} (he : e ∈ chT) (hc : w.heap[g]? = some (Obj.cells cur e (0, 0))) : Beyond b0 w (w.setCell ⟨g, i, none⟩ u) := ⟨by simp, fun w0 h0 hb => SinceOf.setCell h0 (Nat.le_trans hb hg) _, SameBut.set ⟨_, _, _, he, hc⟩⟩
theorem Beyond.grown {b0 : Nat} {w w' : World} {row : Option Nat} (h : w.grownBy w' row) (hr : ∀ q, row = some q → b0 ≤ q ∧ ∃ cur e, e ∈ chT ∧ w.heap[q]? = some (Obj.cells cur e (0, 0))) : Beyond b0 w w' := ⟨h.size, fun w0 h0 hb => SinceOf.grown h0 h fun q hq => Nat.le_trans hb (hr q hq).1, SameBut.grown h fun q hq => by obtain ⟨cur, e, he, hc⟩ := (hr q hq).2; exact ⟨cur, e, _, he, hc⟩⟩
theorem erC_set {s : ShopR} {i : Nat} {K : CalR} : erS ⟨s.A, s.c, s.cals.set i K, s.B, s.d, s.rows, s.most⟩ = setCal (erS s) (i : Int) (erC K) := by
  unfold erS setCal
  simp [List.map_set]
theorem closeV_len {P : Int} {S D M : List (Int × Int)} {a b : Int} (h : closeV P S D a b = some M) : M.length ≤ 20 := by
  unfold closeV at h
  split at h
  · rename_i h2
    injection h with h
    rw [← h]
    exact h2.2
  · cases h
set_option maxRecDepth 100000 in
set_option maxHeartbeats 16000000 in
theorem down_any (b0 g : Nat) (now : Int) (x : StR) (v : EvR) (w : World) (h : ChAt w b0 g now x) (hb : b0 ≤ w.heap.size) (hn : x.s.cals.length ≤ 1000000) :
    Calls Tryz.prog 66 #[.pointer (some ⟨g, 0, none⟩), evV v] w fun e w' => ∃ x' : StR, e = .returned (.int .i64 (shutV (erSt x) now v).1) ∧ erSt x' = (shutV (erSt x) now v).2 ∧ ChAt w' b0 g now x' ∧ Beyond b0 w w' := by
  have hnl : (erSt x).s.cals.length = x.s.cals.length := List.length_map _
  obtain ⟨vk, vm, vf, vt, vj⟩ := v
  have hO := h.old
  have k0 := h.c0
  have k7 := h.c7
  have HW := Lib.hid h
  by_cases e1 : vj = 0
  · have hs1 : shutV (erSt x) now ⟨vk, vm, vf, vt, vj⟩ = (if vm < 0 ∨ ((erSt x).s.cals.length : Int) ≤ vm then ((6 : Int), erSt x) else if vf < now ∨ vt < vf ∨ 1000000 < vt then (2, erSt x) else match closeV (calAt (erSt x).s vm).P (calAt (erSt x).s vm).S (calAt (erSt x).s vm).D vf vt with
        | some M => (0, ⟨setCal (erSt x).s vm ⟨(calAt (erSt x).s vm).P, none, 0, (calAt (erSt x).s vm).S, none, 0, M⟩, (erSt x).L, (erSt x).bg, (erSt x).pd, (erSt x).dr⟩)
        | none => (9, erSt x) : Int × StP) := by unfold shutV; rw [if_pos e1]; rfl
    rw [hs1, hnl]
    subst e1
    by_cases e2 : vm < 0 ∨ (x.s.cals.length : Int) ≤ vm
    · rw [if_pos e2]
      obtain ⟨⟨sA, sc, cals, sB, sd, R, most⟩, A, c, L, gA, gc, bg, pA, pc, pd, dA, dc, dr⟩ := x
      simp only at k0 k7 e2 hn
      clear h hs1 hnl
      rcases (show vm < 0 ∨ (¬ vm < 0 ∧ (cals.length : Int) ≤ vm) by omega) with e3 | ⟨e3, e4⟩
      · have d1 : decide (vm < 0) = true := decide_eq_true e3
        clear e2
        go_enter Tryz.func66, Tryz.ntmps66
        go_wp2_with fail
        refine region_later (by kernel_rfl) (by kernel_rfl) ?_
        repeat (go_big_quiet_step (fail))
        refine wpQuiet_nil ?_
        rintro _ ⟨zq1, rfl⟩
        go_wp2_with fail
        go_returns
        exact ⟨_, rfl, rfl, HW.out.of Sx, Beyond.of Sx⟩
      · have d1 : decide (vm < 0) = false := decide_eq_false e3
        clear e2
        go_enter Tryz.func66, Tryz.ntmps66
        go_wp2_with fail
        refine region_later (by kernel_rfl) (by kernel_rfl) ?_
        repeat (go_big_quiet_step (fail))
        refine wpQuiet_nil ?_
        rintro _ ⟨zq1, rfl⟩
        go_wp2_with fail
        go_returns
        exact ⟨_, rfl, rfl, HW.out.of Sx, Beyond.of Sx⟩
    · rw [if_neg e2]
      by_cases e3 : vf < now ∨ vt < vf ∨ 1000000 < vt
      · rw [if_pos e3]
        obtain ⟨⟨sA, sc, cals, sB, sd, R, most⟩, A, c, L, gA, gc, bg, pA, pc, pd, dA, dc, dr⟩ := x
        simp only at k0 k7 e2 hn
        have e4 : ¬ vm < 0 := by omega
        have e5 : ¬ (cals.length : Int) ≤ vm := by omega
        clear h hs1 hnl
        have d1 : decide (vm < 0) = false := decide_eq_false e4
        rcases (show vf < now ∨ (¬ vf < now ∧ vt < vf) ∨ (¬ vf < now ∧ ¬ vt < vf ∧ 1000000 < vt) by omega) with e6 | ⟨e6, e7⟩ | ⟨e6, e7, e8⟩
        · have d2 : decide (vf < now) = true := decide_eq_true e6
          clear e2 e3
          go_enter Tryz.func66, Tryz.ntmps66
          go_wp2_with fail
          refine region_later (by kernel_rfl) (by kernel_rfl) ?_
          repeat (go_big_quiet_step (fail))
          refine wpQuiet_nil ?_
          rintro _ ⟨zq1, rfl⟩
          go_wp2_with fail
          refine region_later (by kernel_rfl) (by kernel_rfl) ?_
          repeat (go_big_quiet_step (fail))
          refine wpQuiet_nil ?_
          rintro _ ⟨zq2, rfl⟩
          go_wp2_with fail
          go_returns
          exact ⟨_, rfl, rfl, HW.out.of Sx, Beyond.of Sx⟩
        · have d2 : decide (vf < now) = false := decide_eq_false e6
          have d3 : decide (vt < vf) = true := decide_eq_true e7
          clear e2 e3
          go_enter Tryz.func66, Tryz.ntmps66
          go_wp2_with fail
          refine region_later (by kernel_rfl) (by kernel_rfl) ?_
          repeat (go_big_quiet_step (fail))
          refine wpQuiet_nil ?_
          rintro _ ⟨zq1, rfl⟩
          go_wp2_with fail
          refine region_later (by kernel_rfl) (by kernel_rfl) ?_
          repeat (go_big_quiet_step (fail))
          refine wpQuiet_nil ?_
          rintro _ ⟨zq2, rfl⟩
          go_wp2_with fail
          go_returns
          exact ⟨_, rfl, rfl, HW.out.of Sx, Beyond.of Sx⟩
        · have d2 : decide (vf < now) = false := decide_eq_false e6
          have d3 : decide (vt < vf) = false := decide_eq_false e7
          clear e2 e3
          go_enter Tryz.func66, Tryz.ntmps66
          go_wp2_with fail
          refine region_later (by kernel_rfl) (by kernel_rfl) ?_
          repeat (go_big_quiet_step (fail))
          refine wpQuiet_nil ?_
          rintro _ ⟨zq1, rfl⟩
          go_wp2_with fail
          refine region_later (by kernel_rfl) (by kernel_rfl) ?_
          repeat (go_big_quiet_step (fail))
          refine wpQuiet_nil ?_
          rintro _ ⟨zq2, rfl⟩
          go_wp2_with fail
          go_returns
          exact ⟨_, rfl, rfl, HW.out.of Sx, Beyond.of Sx⟩
      · rw [if_neg e3]
        obtain ⟨i, rfl⟩ : ∃ i : Nat, vm = i := ⟨vm.toNat, by omega⟩
        have hi : i < x.s.cals.length := by omega
        obtain ⟨q, hq, hqb, hlive⟩ := h.cals.row.live encC_len (by omega)
        have hO2 := hlive.row.there
        have j0 := hlive.row.k0 i hi
        have j1 := hlive.row.k1 i hi
        have j2 := hlive.row.k2 i hi
        have f0 := hlive.free (i * 3) (by omega)
        have f1 := hlive.free (i * 3 + 1) (by omega)
        have f2 := hlive.free (i * 3 + 2) (by omega)
        have hall := h.cals.all _ (List.getElem_mem hi)
        have hcal : calAt (erSt x).s i = erC x.s.cals[i] := by
          show calAt (erS x.s) i = _
          rw [calAt_er, calAt_at hi]
        rw [hcal]
        have hcell : ∀ W, SinceOf w W → IsCal W x.s.cals[i].P x.s.cals[i].A x.s.cals[i].S.length x.s.cals[i].c x.s.cals[i].B x.s.cals[i].D.length x.s.cals[i].d x.s.cals[i].S x.s.cals[i].D := fun W hW => ⟨rfl, rfl, (hall.1.isRow encV_len).of hW, (hall.2.1.isRow encV_len).of hW, by have := hall.2.2.1; omega, by have := hall.2.2.2; omega⟩
        have CL := fun W (hW : SinceOf w W) => closeOwn_any vf vt (hcell W hW)
        obtain ⟨⟨sA, sc, cals, sB, sd, R, most⟩, A, c, L, gA, gc, bg, pA, pc, pd, dA, dc, dr⟩ := x
        simp only at k0 k7 e2 hn hi hq
        subst hq
        have e4 : ¬ (i : Int) < 0 := by omega
        have e5 : ¬ (cals.length : Int) ≤ (i : Int) := by omega
        have e6 : ¬ vf < now := by omega
        have e7 : ¬ vt < vf := by omega
        have e8 : ¬ 1000000 < vt := by omega
        obtain ⟨K, hK⟩ : ∃ K, K = cals[i] := ⟨_, rfl⟩
        simp only at CL j0 j1 j2 f0 f1 f2
        rw [← hK] at CL j0 j1 j2 ⊢
        simp only [Nat.zero_add] at j0 j1 j2 f0 f1 f2
        obtain ⟨kP, kA, kc, kS, kB, kd, kD⟩ := K
        show Calls _ _ _ _ _
        simp only [erC]
        have hkl := hall.2.2.1
        simp only at hkl
        rw [← hK] at hkl
        simp only at hkl
        have HK := Lib.hid (And.intro hK (And.intro hkl hqb))
        obtain ⟨cv, hcv⟩ : ∃ cv, closeV kP kS kD vf vt = cv := ⟨_, rfl⟩
        rw [hcv]
        have HV := Lib.hid hcv
        have d1 : decide ((i : Int) < 0) = false := decide_eq_false e4
        have d2 : decide (vf < now) = false := decide_eq_false e6
        have d3 : decide (vt < vf) = false := decide_eq_false e7
        clear h hall hcell hcal hlive hs1 hnl hK hcv e2 e3 hkl
        go_enter Tryz.func66, Tryz.ntmps66
        go_wp2_with fail
        refine region_later (by kernel_rfl) (by kernel_rfl) ?_
        repeat (go_big_quiet_step (fail))
        refine wpQuiet_nil ?_
        rintro _ ⟨zq1, rfl⟩
        go_wp2_with fail
        refine region_later (by kernel_rfl) (by kernel_rfl) ?_
        repeat (go_big_quiet_step (fail))
        refine wpQuiet_nil ?_
        rintro _ ⟨zq2, rfl⟩
        go_wp2_with fail
        have hs1 := zq1.size
        have hs2 := zq2.size
        (try simp at hs1)
        (try simp at hs2)
        go_region_held3 (fun w' => w'.cell? ⟨g, 0, none⟩ = some (.slice (some ⟨q, 0, none⟩) cals.length sc) ∧ w'.cell? ⟨w.heap.size, 1, none⟩ = some (.int .i64 i) ∧ w'.cell? ⟨w.heap.size, 2, none⟩ = some (.int .i64 vf) ∧ w'.cell? ⟨w.heap.size, 3, none⟩ = some (.int .i64 vt) ∧ w'.cell? ⟨q, i * 3, none⟩ = some (.int .i64 kP) ∧ w'.cell? ⟨q, i * 3 + 1, none⟩ = some (.slice kA kS.length kc) ∧ w'.cell? ⟨q, i * 3 + 2, none⟩ = some (.slice kB kD.length kd)) ((simp [go_sem, *]))
          (first
            | (go_at_call 105; refine (CL _ Sx).mono ?_; rintro e w5 ⟨⟨z5, rfl⟩, er, P', A', n', c', B', m', d', S', D', rfl, hcal, hR, hoS, hoD⟩; have hzz := z5.size; (try simp at hzz); have HR := Lib.hid (And.intro (closeR_fn hR) (And.intro hoS (And.intro hoD (And.intro hcal.n hcal.m)))); clear hcal hR hoS hoD))
        all_goals
          have hq := HR.out.1
          rw [HV.out] at hq
          cases cv with
          | none =>
            have hq2 : (er != 0) = true := by simpa using hq
            clear hq
            go_wp2_with fail
            go_returns
            exact ⟨rfl, _, rfl, HW.out.of Sx, Beyond.of Sx⟩
          | some M =>
            obtain ⟨rfl, rfl, rfl, rfl⟩ := hq
            obtain ⟨-, ho1, ho2, rfl, rfl⟩ := HR.out
            have HO := Lib.hid (And.intro ho1 ho2)
            have HV2 := Lib.hid (closeV_len HV.out)
            clear ho1 ho2 HR
            go_wp2_with fail
            go_big_region
            go_wp2_with fail
            go_returns
            have hlt : zq2.wd.heap.size < zq2.wd.heap.size + 1 := by omega
            have key : ∀ V, SinceOf w V → OwnIvs b0 V A' c' S' → OwnIvs b0 V B' d' D' → ChAt ((((V.setCell ⟨q, i * 3, none⟩ (.int .i64 P')).setCell ⟨q, i * 3 + 1, none⟩ (.slice A' S'.length c')).setCell ⟨q, i * 3 + 2, none⟩ (.slice B' D'.length d')).drew) b0 g now ⟨⟨some ⟨q, 0, none⟩, sc, cals.set i ⟨P', A', c', S', B', d', D'⟩, sB, sd, R, most⟩, A, c, L, gA, gc, bg, pA, pc, pd, dA, dc, dr⟩ ∧ Beyond b0 w ((((V.setCell ⟨q, i * 3, none⟩ (.int .i64 P')).setCell ⟨q, i * 3 + 1, none⟩ (.slice A' S'.length c')).setCell ⟨q, i * 3 + 2, none⟩ (.slice B' D'.length d')).drew) := by
              intro V hV o1 o2
              have hC := HW.out.of hV
              obtain ⟨cur, hq⟩ := hC.cals.row.typed q rfl
              have h1 := hC.setCal rfl hi ⟨P', A', c', S', B', d', D'⟩ ⟨o1, o2, HK.out.2.1, by have := HV2.out; show D'.length ≤ 1000000; omega⟩
              exact ⟨h1.of ((SinceOf.refl _).drew), ((((Beyond.of hV).trans (Beyond.set HK.out.2.2 (by simp [chT]) hq)).trans (Beyond.set HK.out.2.2 (by simp [chT]) (set_block hq _))).trans (Beyond.set HK.out.2.2 (by simp [chT]) (set_block (set_block hq _) _))).trans (Beyond.of (SinceOf.refl _).drew)⟩
            refine ⟨rfl, ⟨⟨some ⟨q, 0, none⟩, sc, cals.set i ⟨P', A', c', S', B', d', D'⟩, sB, sd, R, most⟩, A, c, L, gA, gc, bg, pA, pc, pd, dA, dc, dr⟩, ?_, key _ Sx ?_ ?_⟩
            · have e := erC_set (s := ⟨some ⟨q, 0, none⟩, sc, cals, sB, sd, R, most⟩) (i := i) (K := ⟨P', A', c', S', B', d', D'⟩)
              show StP.mk _ _ _ _ _ = _
              rw [e]
              rfl
            · first
              | (refine (HO.out.1.of ?_).base_le ?_
                 · (repeat (with_reducible first | exact Sr _ | assumption | refine Sa ?_ _ | refine Sd ?_ | refine Sn ?_ _ | refine Se ?_ _ | refine Sf ?_ _ | refine Sc ?_ (by first | exact Nat.le_refl _ | (simp; done) | omega | (simp; omega)) _))
                   done
                 · first | omega | (simp; done) | (simp; omega) | (simp at *; omega))
              | exact (((HO.out.1.setOther (by first | omega | (simp; done) | (simp; omega) | (simp at *; omega))).setOther (by first | omega | (simp; done) | (simp; omega) | (simp at *; omega))).setOther (by first | omega | (simp; done) | (simp; omega) | (simp at *; omega))).base_le (by first | omega | (simp; done) | (simp; omega) | (simp at *; omega))
            · first
              | (refine (HO.out.2.of ?_).base_le ?_
                 · (repeat (with_reducible first | exact Sr _ | assumption | refine Sa ?_ _ | refine Sd ?_ | refine Sn ?_ _ | refine Se ?_ _ | refine Sf ?_ _ | refine Sc ?_ (by first | exact Nat.le_refl _ | (simp; done) | omega | (simp; omega)) _))
                   done
                 · first | omega | (simp; done) | (simp; omega) | (simp at *; omega))
              | exact (((HO.out.2.setOther (by first | omega | (simp; done) | (simp; omega) | (simp at *; omega))).setOther (by first | omega | (simp; done) | (simp; omega) | (simp at *; omega))).setOther (by first | omega | (simp; done) | (simp; omega) | (simp at *; omega))).base_le (by first | omega | (simp; done) | (simp; omega) | (simp at *; omega))
  · have hs1 : shutV (erSt x) now ⟨vk, vm, vf, vt, vj⟩ = (1, erSt x) := by unfold shutV; rw [if_neg e1]
    rw [hs1]
    have e2 : (vj != 0) = true := by simpa using e1
    obtain ⟨⟨sA, sc, cals, sB, sd, R, most⟩, A, c, L, gA, gc, bg, pA, pc, pd, dA, dc, dr⟩ := x
    simp only at k0 k7 hn
    clear h hs1 hnl e1
    go_enter Tryz.func66, Tryz.ntmps66
    go_wp2_with fail
    go_returns
    exact ⟨_, rfl, rfl, HW.out.of Sx, Beyond.of Sx⟩
end Go.Proofs.YtpaojgfmffkodaaGreat
