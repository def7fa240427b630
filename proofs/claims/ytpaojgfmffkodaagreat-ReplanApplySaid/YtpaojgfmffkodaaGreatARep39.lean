/- Layer 54: the reference's Apply, what it keeps in memory. -/
import Derived.Test.YtpaojgfmffkodaaGreatARep23
import Derived.Test.YtpaojgfmffkodaaGreatARep25
namespace Go.Proofs.YtpaojgfmffkodaaGreat
set_option linter.unusedVariables false
set_option linter.unusedSimpArgs false
open Go.RowKit Go.Sort
attribute [local go_sem ↓] Go.wp_at_zero Go.wp_at_succ
section
variable {P : Program} {ops : Array Oper} {Q : Exit → Act → World → Prop} {md : Region.Mode} {S : World → Prop} {X : List Nat}
theorem stepL3 {i j k : Nat} {o p q : Oper} {fuel : Nat} {listed : Array Bool} {a : Act} {w : World} (hr : Region.ready md ops listed = [i, j, k]) (ho : ops[i]? = some o) (hp : ops[j]? = some p) (hq : ops[k]? = some q)
 (h1 : ∀ K' : Act → World → Prop, Shut (∀ a w, S w → (S w → wpAnyL P md ops Q S X fuel (listed.setIfInBounds i true) a w) → K' a w) → if Region.wanted o (yielded ops a.tmps) = true then Oper.wp P o a w K' Q else K' (a.put o.dst undef) w)
 (h2 : ∀ K' : Act → World → Prop, Shut (∀ a w, S w → (S w → wpAnyL P md ops Q S X fuel (listed.setIfInBounds j true) a w) → K' a w) → if Region.wanted p (yielded ops a.tmps) = true then Oper.wp P p a w K' Q else K' (a.put p.dst undef) w)
 (h3 : ∀ K' : Act → World → Prop, Shut (∀ a w, S w → (S w → wpAnyL P md ops Q S X fuel (listed.setIfInBounds k true) a w) → K' a w) → if Region.wanted q (yielded ops a.tmps) = true then Oper.wp P q a w K' Q else K' (a.put q.dst undef) w) : wpAnyL P md ops Q S X (fuel + 1) listed a w := by
 refine ⟨(fun h0 => by rw [hr] at h0; cases h0), fun n hn => ?_⟩
 rw [hr] at hn
 rcases List.mem_cons.1 hn with rfl | hn
 · exact wpOp_step ho (fun K' hK => h1 K' (fun a w hS hW => hK a w ⟨fun _ => hS, hW hS⟩))
 rcases List.mem_cons.1 hn with rfl | hn
 · exact wpOp_step hp (fun K' hK => h2 K' (fun a w hS hW => hK a w ⟨fun _ => hS, hW hS⟩))
 · rw [List.mem_singleton] at hn
   subst hn
   exact wpOp_step hq (fun K' hK => h3 K' (fun a w hS hW => hK a w ⟨fun _ => hS, hW hS⟩))
end
section
variable {w W : World}
theorem IsCals.moved {A : Option Addr} {c : Nat} {L : List CalR} (h : IsCals w A c L) (hb : ∀ b, b < w.heap.size → W.heap[b]? = w.heap[b]?) (hs : w.heap.size ≤ W.heap.size) : IsCals W A c L :=
 ⟨h.row.moved (fun b _ hlt => hb b hlt) hs, fun x hx => by
  obtain ⟨g1, g2, g3, g4, g5, g6⟩ := h.all x hx
  exact ⟨g1, g2, g3.moved (fun b _ hlt => hb b hlt) hs, g4.moved (fun b _ hlt => hb b hlt) hs, g5, g6⟩, h.len⟩
theorem IsRows.moved {A : Option Addr} {c : Nat} {L : List RowR} (h : IsRows w A c L) (hb : ∀ b, b < w.heap.size → W.heap[b]? = w.heap[b]?) (hs : w.heap.size ≤ W.heap.size) : IsRows W A c L :=
 ⟨h.row.moved (fun b _ hlt => hb b hlt) hs, fun x hx => ⟨(h.all x hx).1.moved (fun b _ hlt => hb b hlt) hs, (h.all x hx).2⟩, h.len⟩
end
structure RfAt (w : World) (b0 o : Nat) (x : StR) : Prop where
 base : b0 ≤ o
 cell : w.heap[o]? = some (Obj.cells #[.slice x.s.A x.s.cals.length x.s.c, .slice x.s.B x.s.rows.length x.s.d, .int .i64 x.s.most, .slice x.A x.L.length x.c, .slice x.gA x.bg.length x.gc, .slice x.pA x.pd.length x.pc, .slice x.dA x.dr.length x.dc] 52 (0, 0))
 off : StOff (offS (fun b => b = o ∨ b + 1 = b0) x.A) w x
 jobs : Owns encJ 6 b0 87 w x.A x.c x.L
section
variable {w w' : World} {b0 o : Nat} {x : StR}
theorem RfAt.of (h : RfAt w b0 o x) (hs : SinceOf w w') : RfAt w' b0 o x := ⟨h.base, heapAt h.cell hs, h.off.of hs, h.jobs.of hs⟩
theorem RfAt.old (h : RfAt w b0 o x) : Nonempty (Old w o) := ⟨⟨heap_lt h.cell⟩⟩
theorem RfAt.state (h : RfAt w b0 o x) (hL : x.L.length < 4611686018427387904) : IsState w x := by
 obtain ⟨h1, h2, h3, h4, h5⟩ := h.off w (fun b _ _ => rfl) (Nat.le_refl _)
 exact ⟨h1, ⟨h.jobs.isRow encJ_len, h2, hL⟩, h3, h4, h5⟩
theorem RfAt.begun {V w0 : World} {s : ShopR} {A : Option Addr} {c nd : Nat} {L : List JobR} {n : Nat} {dr : List Bool} (hb : b0 ≤ o) (hs : IsShop w0 s) (hJ0 : ∀ j ∈ L, IsInts w0 j.A j.c j.ms ∧ j.ms.length < 4611686018427387904) (hV : SinceOf w0 V) (h0 : w0.heap.size < b0)
 (hc : V.heap[o]? = some (Obj.cells #[.slice s.A s.cals.length s.c, .slice s.B s.rows.length s.d, .int .i64 s.most, .slice A L.length c, .slice none 0 0, .slice none 0 0, .slice (some ⟨nd, 0, none⟩) dr.length n] 52 (0, 0)))
 (hj : Owns encJ 6 b0 87 V A c L) (hd : Owns encB 1 b0 4 V (some ⟨nd, 0, none⟩) n dr) : RfAt V b0 o ⟨s, A, c, L, none, 0, [], none, 0, [], some ⟨nd, 0, none⟩, n, dr⟩ := by
 refine ⟨hb, hc, fun W hW hWs => ?_, hj⟩
 have hsz := hV.size
 have low : ∀ b, b < w0.heap.size → W.heap[b]? = w0.heap[b]? := fun b hlt => (hW b (by omega) (fun hS => by
  rcases hS with (h | h) | hS
  · omega
  · omega
  · have := (hj.below b hS).1; omega)).trans (hV.below.block b hlt)
 refine ⟨⟨hs.cals.moved low (by omega), hs.rows.moved low (by omega)⟩, fun j hjm => ⟨(hJ0 j hjm).1.moved (fun b _ hlt => low b hlt) (by omega), (hJ0 j hjm).2⟩, IsRow.nil _ _ _, IsRow.nil _ _ _, ?_⟩
 refine (hd.isRow encB_len).moved (fun b hb2 hlt => hW b hlt (fun hS => ?_)) hWs
 obtain ⟨cur2, hc2⟩ := hd.typed b hb2
 have hdb := (hd.below b hb2).1
 rcases hS with (rfl | h) | hS
 · rw [hc] at hc2
   simp at hc2
 · omega
 · obtain ⟨cur1, hc1⟩ := hj.typed b hS
   rw [hc2] at hc1
   simp at hc1
theorem RfAt.next (h : RfAt w b0 o x) {x' : StR} {w1 : World} (hc : w1.heap[o]? = w.heap[o]?) (hf : StOff (offS (fun b => b = o ∨ b + 1 = b0) x'.A) w1 x') (hj : Owns encJ 6 b0 87 w1 x'.A x'.c x'.L) :
 RfAt (((((((w1.setCell ⟨o, 0, none⟩ (.slice x'.s.A x'.s.cals.length x'.s.c)).setCell ⟨o, 1, none⟩ (.slice x'.s.B x'.s.rows.length x'.s.d)).setCell ⟨o, 2, none⟩ (.int .i64 x'.s.most)).setCell ⟨o, 3, none⟩ (.slice x'.A x'.L.length x'.c)).setCell ⟨o, 4, none⟩ (.slice x'.gA x'.bg.length x'.gc)).setCell ⟨o, 5, none⟩ (.slice x'.pA x'.pd.length x'.pc)).setCell ⟨o, 6, none⟩ (.slice x'.dA x'.dr.length x'.dc)) b0 o x' := by
 have h0 := hc.trans h.cell
 have hoj : ∀ b, blockOf x'.A = some b → o ≠ b := fun b hb e => by
  subst e
  obtain ⟨cur, hcj⟩ := hj.typed o hb
  rw [h0] at hcj
  simp at hcj
 exact ⟨h.base, set7_at h0, hf.change (fun b hb hn => set7_ne (fun e => hn (.inl (.inl e.symm)))) set7_size, hj.sameBlock (fun b hb => set7_ne (hoj b hb))⟩
theorem laterTo_items {bg : List SlotR} {now : Int} {k : Nat} {L : List JobR} : ∀ j ∈ laterTo bg now k L, ∃ j0 ∈ L, j.A = j0.A ∧ j.c = j0.c ∧ j.ms = j0.ms := by
 intro j hj
 unfold laterTo at hj
 rw [List.mem_mapIdx] at hj
 obtain ⟨i, hi, rfl⟩ := hj
 refine ⟨L[i], List.getElem_mem hi, ?_⟩
 split
 · unfold laterJ
   split <;> exact ⟨rfl, rfl, rfl⟩
 · exact ⟨rfl, rfl, rfl⟩
theorem RfAt.release {bgP : List SlotR} {now : Int} {s : ShopR} {q c gc pc dc k : Nat} {L : List JobR} {gA pA dA : Option Addr} {bg pd : List SlotR} {dr : List Bool} (h : RfAt w b0 o ⟨s, some ⟨q, 0, none⟩, c, laterTo bgP now k L, gA, gc, bg, pA, pc, pd, dA, dc, dr⟩) (hk : k < L.length) (hb : begunJ bgP k = false) :
 RfAt (w.setCell ⟨q, k * 6 + 3, none⟩ (.int .i64 (imax L[k].rel now))) b0 o ⟨s, some ⟨q, 0, none⟩, c, laterTo bgP now (k + 1) L, gA, gc, bg, pA, pc, pd, dA, dc, dr⟩ := by
 have hj := h.jobs
 simp only at hj
 obtain ⟨cur, hq⟩ := hj.typed q rfl
 have hk2 : k < (laterTo bgP now k L).length := by rw [laterTo_length]; exact hk
 have h1 := hj.putAt encJ_len (by omega) k hk2 3 (by omega) (.int .i64 (imax L[k].rel now)) ⟨L[k].A, L[k].c, L[k].ms, L[k].dur, L[k].cls, imax L[k].rel now, L[k].due, L[k].ord⟩ (by rw [laterTo_at bgP now hk]; rfl)
 have e : (laterTo bgP now k L).set k ⟨L[k].A, L[k].c, L[k].ms, L[k].dur, L[k].cls, imax L[k].rel now, L[k].due, L[k].ord⟩ = laterTo bgP now (k + 1) L := by
  rw [laterTo_succ bgP now hk]
  unfold laterJ
  rw [hb, if_neg (by decide)]
 rw [e] at h1
 have hlen : (laterTo bgP now (k + 1) L).length = (laterTo bgP now k L).length := by rw [laterTo_length, laterTo_length]
 have hcell := SameBut.set (es := [87]) (i := k * 6 + 3) (u := .int .i64 (imax L[k].rel now)) ⟨_, _, _, List.mem_singleton.2 rfl, hq⟩ o _ _ _ (by simp) h.cell
 refine ⟨h.base, by simp only [hlen]; exact hcell, fun W hW hWs => ?_, h1⟩
 obtain ⟨o1, o2, o3, o4, o5⟩ := h.off W (fun b hlt hn => (hW b (by simpa using hlt) hn).trans (setHeap_ne (fun e => hn (.inr (by rw [← e]; rfl))))) (by simpa using hWs)
 refine ⟨o1, fun j hj2 => ?_, o3, o4, o5⟩
 obtain ⟨j0, hj0, e1, e2, e3⟩ := laterTo_items j hj2
 obtain ⟨i, hi, rfl⟩ := List.getElem_of_mem hj0
 have hm : (laterTo bgP now k L)[i]'(by rw [laterTo_length]; exact hi) ∈ laterTo bgP now k L := List.getElem_mem _
 have e4 : ((laterTo bgP now k L)[i]'(by rw [laterTo_length]; exact hi)).A = L[i].A ∧ ((laterTo bgP now k L)[i]'(by rw [laterTo_length]; exact hi)).c = L[i].c ∧ ((laterTo bgP now k L)[i]'(by rw [laterTo_length]; exact hi)).ms = L[i].ms := by
  unfold laterTo
  simp only [List.getElem_mapIdx]
  split
  · unfold laterJ
    split <;> exact ⟨rfl, rfl, rfl⟩
  · exact ⟨rfl, rfl, rfl⟩
 have := o2 _ hm
 rw [e4.1, e4.2.1, e4.2.2] at this
 rw [e1, e2, e3]
 exact this
end
structure RfB (w3 w : World) (b0 o : Nat) (x : StR) : Prop where
 size : w3.heap.size ≤ w.heap.size
 low : ∀ b, b < w3.heap.size → b ≠ o → b + 1 ≠ b0 → w.heap[b]? = w3.heap[b]?
 cell : w.heap[o]? = some (Obj.cells #[.slice x.s.A x.s.cals.length x.s.c, .slice x.s.B x.s.rows.length x.s.d, .int .i64 x.s.most, .slice x.A x.L.length x.c, .slice x.gA x.bg.length x.gc, .slice x.pA x.pd.length x.pc, .slice x.dA x.dr.length x.dc] 52 (0, 0))
 bg : Owns encS 4 w3.heap.size 77 w x.gA x.gc x.bg
 pd : Owns encS 4 w3.heap.size 77 w x.pA x.pc x.pd
 apart : ∀ b, blockOf x.gA = some b → blockOf x.pA ≠ some b
section
variable {w3 w w' : World} {b0 o : Nat} {x : StR}
theorem RfB.of (h : RfB w3 w b0 o x) (hs : SinceOf w w') : RfB w3 w' b0 o x :=
 ⟨Nat.le_trans h.size hs.size, fun b hb hn hm => (hs.below.block b (Nat.lt_of_lt_of_le hb h.size)).trans (h.low b hb hn hm), heapAt h.cell hs, h.bg.of hs, h.pd.of hs, h.apart⟩
theorem RfB.old (h : RfB w3 w b0 o x) : Nonempty (Old w o) := ⟨⟨heap_lt h.cell⟩⟩
theorem RfB.rows {x3 : StR} (h : RfB w3 w b0 o x) (h3 : RfAt w3 b0 o x3) (hL : x3.L.length < 4611686018427387904) : IsShop w x3.s ∧ IsJobs w x3.A x3.c x3.L ∧ IsRow encB 1 w x3.dA x3.dc x3.dr := by
 obtain ⟨h1, h2, -, -, h5⟩ := h3.off w (fun b hb hn => h.low b hb (fun e => hn (.inl (.inl e))) (fun e => hn (.inl (.inr e)))) h.size
 refine ⟨h1, ⟨(h3.jobs.sameBlock (fun b hb => h.low b (h3.jobs.below b hb).2 (fun e => ?_) (fun e => by have := (h3.jobs.below b hb).1; omega))).isRow encJ_len, h2, hL⟩, h5⟩
 subst e
 obtain ⟨cur, hc⟩ := h3.jobs.typed b hb
 rw [h3.cell] at hc
 simp at hc
theorem RfB.pending {A' : Option Addr} {c' : Nat} {l : List SlotR} (h : RfB w3 w b0 o x) (ho : Owns encS 4 w.heap.size 77 w' A' c' l) (hs : SinceOf w w') (hw : o < w3.heap.size) :
 RfB w3 (w'.setCell ⟨o, 5, none⟩ (.slice A' l.length c')) b0 o ⟨x.s, x.A, x.c, x.L, x.gA, x.gc, x.bg, A', c', l, x.dA, x.dc, x.dr⟩ := by
 have k := h.of hs
 have SC : SameBut [52] w' (w'.setCell ⟨o, 5, none⟩ (.slice A' l.length c')) := SameBut.set ⟨_, _, _, List.mem_singleton.2 rfl, k.cell⟩
 refine ⟨by simpa using k.size, fun b hb hn hm => (setHeap_ne (fun e => hn e.symm)).trans (k.low b hb hn hm), by have := set_block (i := 5) k.cell (.slice A' l.length c'); simpa using this, k.bg.sameBut (by simp) SC, (ho.base_le h.size).sameBut (by simp) SC, fun b hb e => ?_⟩
 have h1 := (h.bg.below b hb).2
 have h2 := (ho.below b e).1
 omega
theorem RfB.push {A' : Option Addr} {c' : Nat} {v : SlotR} (h : RfB w3 w b0 o x) (ho : Owns encS 4 w3.heap.size 77 w' A' c' (x.bg ++ [v])) (hgr : w.grownBy w' (blockOf x.gA)) (hb : blockOf A' = blockOf x.gA ∨ blockOf A' = some w.heap.size) :
 RfB w3 (w'.setCell ⟨o, 4, none⟩ (.slice A' (x.bg ++ [v]).length c')) b0 o ⟨x.s, x.A, x.c, x.L, A', c', x.bg ++ [v], x.pA, x.pc, x.pd, x.dA, x.dc, x.dr⟩ := by
 have SB := SameBut.grown (es := [77]) hgr (fun g5 hg5 => by obtain ⟨cur, hc⟩ := h.bg.typed g5 hg5; exact ⟨cur, _, _, List.mem_singleton.2 rfl, hc⟩)
 have hc' := SB o _ _ _ (by simp) h.cell
 have SC : SameBut [52] w' (w'.setCell ⟨o, 4, none⟩ (.slice A' (x.bg ++ [v]).length c')) := SameBut.set ⟨_, _, _, List.mem_singleton.2 rfl, hc'⟩
 have hpd : Owns encS 4 w3.heap.size 77 w' x.pA x.pc x.pd := h.pd.kept hgr (by
  cases e : blockOf x.pA with
  | none => exact .inl rfl
  | some b => exact .inr fun e2 => h.apart b e2.symm e)
 refine ⟨by simpa using Nat.le_trans h.size hgr.size, fun b hlt hn hm => (setHeap_ne (fun e => hn e.symm)).trans ((hgr.block b (Nat.lt_of_lt_of_le hlt h.size) (fun e => ?_)).trans (h.low b hlt hn hm)), by have := set_block (i := 4) hc' (.slice A' (x.bg ++ [v]).length c'); simpa using this, ho.sameBut (by simp) SC, hpd.sameBut (by simp) SC, fun b hb2 e => ?_⟩
 · have := (h.bg.below b e.symm).1
   omega
 · rcases hb with hb | hb
   · exact h.apart b (by rw [← hb]; exact hb2) e
   · have := (h.pd.below b e).2
     have hb3 : blockOf A' = some b := hb2
     rw [hb] at hb3
     injection hb3 with hb3
     omega
end
theorem ev_first {w1 V w5 : World} {b0 o : Nat} {x x' : StR} (hap : RfAt w1 b0 o x) (hb0 : b0 ≤ w1.heap.size) (hV : SinceOf w1 V) (hev : EvOut V w5 b0 x x') :
 (w5.alloc (.cells (st7 x') 52)).heap[w5.heap.size]? = some (Obj.cells (st7 x') 52 (0, 0)) ∧ StOff (offS (fun b => b = o ∨ b + 1 = b0) x'.A) (w5.alloc (.cells (st7 x') 52)) x' ∧ Owns encJ 6 b0 87 (w5.alloc (.cells (st7 x') 52)) x'.A x'.c x'.L ∧ w1.heap.size ≤ w5.heap.size ∧ SinceOf w1 (w5.alloc (.cells (st7 x') 52)) := by
 have holt := heap_lt hap.cell
 have h1 := hV.size
 have h2 := hev.since.size
 exact ⟨alloc_at _ _ _ rfl, (hev.off (fun b => b = o ∨ b + 1 = b0) (fun b e => by rcases e with e | e <;> omega) (hap.off.of hV)).of ((SinceOf.refl _).alloc _), hev.jobs.of ((SinceOf.refl _).alloc _), by omega, (hV.trans hev.since).alloc _⟩
theorem ev_second {w1 V w5 : World} {b0 o : Nat} {x x' : StR} {zc : Array Value} (hap : RfAt w1 b0 o x) (hb0 : b0 ≤ w1.heap.size) (hzc : zc.size = 7) (hV : SinceOf (w1.alloc (.cells zc 52)) V) (hev : EvOut V w5 b0 x x') :
 (((((((w5.setCell ⟨w1.heap.size, 0, none⟩ (.slice x'.s.A x'.s.cals.length x'.s.c)).setCell ⟨w1.heap.size, 1, none⟩ (.slice x'.s.B x'.s.rows.length x'.s.d)).setCell ⟨w1.heap.size, 2, none⟩ (.int .i64 x'.s.most)).setCell ⟨w1.heap.size, 3, none⟩ (.slice x'.A x'.L.length x'.c)).setCell ⟨w1.heap.size, 4, none⟩ (.slice x'.gA x'.bg.length x'.gc)).setCell ⟨w1.heap.size, 5, none⟩ (.slice x'.pA x'.pd.length x'.pc)).setCell ⟨w1.heap.size, 6, none⟩ (.slice x'.dA x'.dr.length x'.dc)).heap[w1.heap.size]? = some (Obj.cells (st7 x') 52 (0, 0)) ∧
 StOff (offS (fun b => b = o ∨ b + 1 = b0) x'.A) (((((((w5.setCell ⟨w1.heap.size, 0, none⟩ (.slice x'.s.A x'.s.cals.length x'.s.c)).setCell ⟨w1.heap.size, 1, none⟩ (.slice x'.s.B x'.s.rows.length x'.s.d)).setCell ⟨w1.heap.size, 2, none⟩ (.int .i64 x'.s.most)).setCell ⟨w1.heap.size, 3, none⟩ (.slice x'.A x'.L.length x'.c)).setCell ⟨w1.heap.size, 4, none⟩ (.slice x'.gA x'.bg.length x'.gc)).setCell ⟨w1.heap.size, 5, none⟩ (.slice x'.pA x'.pd.length x'.pc)).setCell ⟨w1.heap.size, 6, none⟩ (.slice x'.dA x'.dr.length x'.dc)) x' ∧
 Owns encJ 6 b0 87 (((((((w5.setCell ⟨w1.heap.size, 0, none⟩ (.slice x'.s.A x'.s.cals.length x'.s.c)).setCell ⟨w1.heap.size, 1, none⟩ (.slice x'.s.B x'.s.rows.length x'.s.d)).setCell ⟨w1.heap.size, 2, none⟩ (.int .i64 x'.s.most)).setCell ⟨w1.heap.size, 3, none⟩ (.slice x'.A x'.L.length x'.c)).setCell ⟨w1.heap.size, 4, none⟩ (.slice x'.gA x'.bg.length x'.gc)).setCell ⟨w1.heap.size, 5, none⟩ (.slice x'.pA x'.pd.length x'.pc)).setCell ⟨w1.heap.size, 6, none⟩ (.slice x'.dA x'.dr.length x'.dc)) x'.A x'.c x'.L ∧ w1.heap.size ≤ w1.heap.size ∧
 SinceOf w1 (((((((w5.setCell ⟨w1.heap.size, 0, none⟩ (.slice x'.s.A x'.s.cals.length x'.s.c)).setCell ⟨w1.heap.size, 1, none⟩ (.slice x'.s.B x'.s.rows.length x'.s.d)).setCell ⟨w1.heap.size, 2, none⟩ (.int .i64 x'.s.most)).setCell ⟨w1.heap.size, 3, none⟩ (.slice x'.A x'.L.length x'.c)).setCell ⟨w1.heap.size, 4, none⟩ (.slice x'.gA x'.bg.length x'.gc)).setCell ⟨w1.heap.size, 5, none⟩ (.slice x'.pA x'.pd.length x'.pc)).setCell ⟨w1.heap.size, 6, none⟩ (.slice x'.dA x'.dr.length x'.dc)) := by
 have holt := heap_lt hap.cell
 have h1 := hV.size
 simp only [World.size_alloc] at h1
 have h2 := hev.since.size
 have hc : w5.heap[w1.heap.size]? = some (Obj.cells zc 52 (0, 0)) := heapMade (hV.trans hev.since) rfl
 have hoff := hev.off (fun b => (b = o ∨ b + 1 = b0) ∨ b = w1.heap.size) (fun b e => by rcases e with (e | e) | e <;> omega) (hap.off.more ((SinceOf.alloc (SinceOf.refl _) _).trans hV) (fun b hb hS => by
  rcases hS with (h | h) | h
  · exact .inl h
  · omega
  · exact .inr h))
 obtain ⟨l⟩ := zc
 match l, hzc with
 | [_, _, _, _, _, _, _], _ =>
   refine ⟨set7_at hc, (hoff.change (fun b hb hn => set7_ne (fun e => hn (.inl (.inr e.symm)))) set7_size).less (fun b _ hS => ?_), hev.jobs.sameBlock (fun b hb => set7_ne (fun e => ?_)), Nat.le_refl _, set7_since (Nat.le_refl _) ((SinceOf.alloc (SinceOf.refl _) _).trans (hV.trans hev.since))⟩
   · rcases hS with h | h
     · exact .inl (.inl h)
     · exact .inr h
   · subst e
     obtain ⟨cur, hcj⟩ := hev.jobs.typed _ hb
     rw [hc] at hcj
     simp at hcj
theorem RfB.final {w3 w : World} {b0 o g : Nat} {x x3 : StR} {u0 u1 u2 u3 u4 u5 u6 : Value} (h : RfB w3 w b0 o x) (h3 : RfAt w3 b0 o x3) (hL : x3.L.length < 4611686018427387904) (hx : x.s = x3.s ∧ x.A = x3.A ∧ x.c = x3.c ∧ x.L = x3.L ∧ x.dA = x3.dA ∧ x.dc = x3.dc ∧ x.dr = x3.dr) (hg : g + 1 = b0) (h0 : b0 ≤ w3.heap.size) :
 IsState (((((((w.setCell ⟨g, 0, none⟩ u0).setCell ⟨g, 1, none⟩ u1).setCell ⟨g, 2, none⟩ u2).setCell ⟨g, 3, none⟩ u3).setCell ⟨g, 4, none⟩ u4).setCell ⟨g, 5, none⟩ u5).setCell ⟨g, 6, none⟩ u6) x := by
 have hb := h3.base
 have k : RfB w3 (((((((w.setCell ⟨g, 0, none⟩ u0).setCell ⟨g, 1, none⟩ u1).setCell ⟨g, 2, none⟩ u2).setCell ⟨g, 3, none⟩ u3).setCell ⟨g, 4, none⟩ u4).setCell ⟨g, 5, none⟩ u5).setCell ⟨g, 6, none⟩ u6) b0 o x :=
  ⟨Nat.le_trans h.size set7_size, fun b hb1 hn hm => (set7_ne (by omega)).trans (h.low b hb1 hn hm), (set7_ne (by omega)).trans h.cell, h.bg.sameBlock (fun b hb2 => set7_ne (by have := (h.bg.below b hb2).1; omega)), h.pd.sameBlock (fun b hb2 => set7_ne (by have := (h.pd.below b hb2).1; omega)), h.apart⟩
 obtain ⟨r1, r2, r3⟩ := k.rows h3 hL
 obtain ⟨e1, e2, e3, e4, e5, e6, e7⟩ := hx
 refine ⟨by rw [e1]; exact r1, by rw [e2, e3, e4]; exact r2, k.bg.isRow encS_len, k.pd.isRow encS_len, by rw [e5, e6, e7]; exact r3⟩
theorem last_noneP {x : StR} {bgP pdP : List SlotR} {now : Int} (h : endsV x.s (x.L.mapIdx (laterJ bgP now)) bgP = none) : lastV (plSt x bgP pdP) now = (8, noSt) := by
 unfold lastV plSt
 simp only
 rw [← later_er, endsV_er, h]
theorem last_someP {x : StR} {bgP pdP : List SlotR} {now : Int} {b : List SlotR} (h : endsV x.s (x.L.mapIdx (laterJ bgP now)) bgP = some b) (hn : (pdP.map (·.job)).Nodup) : lastV (plSt x bgP pdP) now = (0, ⟨erS x.s, erL (x.L.mapIdx (laterJ bgP now)), b, insAll [] (pdP.filter fun y => !x.dr.getD y.job.toNat false), x.dr⟩) := by
 unfold lastV plSt
 simp only
 rw [← later_er, endsV_er, h, insAll_sort ((List.filter_sublist.map _).nodup hn)]
theorem after_eventsP {s : ShopR} {L : List JobR} {plan : List SlotR} {now : Int} {evs : List EvR} {x : StR} {bgP pdP : List SlotR} (hpd : pdP = plan.filter fun y => !decide (y.start < now)) (hc : checkS s L = true) (hg : GoodS s L plan) (hr : runV now (startV s L plan now) evs = (0, plSt x bgP pdP)) :
 (∀ y ∈ plan, (0 ≤ y.job ∧ y.job < x.L.length) ∧ 0 ≤ y.mach ∧ y.mach < x.s.cals.length) ∧ (pdP.map (·.job)).Nodup ∧ x.s.rows.length = s.rows.length := by
 have hbg : ∀ y ∈ (startV s L plan now).bg, 0 ≤ y.job ∧ y.job < (startV s L plan now).L.length := by
  intro y hy
  have hy1 : y ∈ plan := (List.mem_filter.1 hy).1
  have := (good_stop hg y hy1).1
  show 0 ≤ y.job ∧ y.job < (erL L).length
  rw [erL_length]
  exact this
 have inv := run_inv hbg evs _ (start_inv s L plan now hc) (by rw [hr])
 rw [hr] at inv
 have i3 : (erL L).length ≤ (erL x.L).length := inv.le
 have i4 : (erS x.s).cals.length = (erS s).cals.length := inv.n
 have i5 : (erS x.s).rows = (erS s).rows := inv.rows
 simp only [erL_length, erS, List.length_map] at i3 i4
 refine ⟨fun y hy => ?_, ?_, ?_⟩
 · have hn := nameB_iff.1 (slot_parts.1 (hg.1 y hy)).1
   omega
 · rw [hpd]
   exact (List.filter_sublist.map _).nodup (good_jobs hg)
 · have := congrArg List.length i5
   simpa [erS] using this
end Go.Proofs.YtpaojgfmffkodaaGreat
