/- Layer 54: the reference's event, a machine is closed. -/
import Derived.Test.YtpaojgfmffkodaaGreatARep15
import Derived.Test.YtpaojgfmffkodaaGreatARep25
import Derived.Test.YtpaojgfmffkodaaGreatACal10
import Derived.Test.YtpaojgfmffkodaaGreatARep24
import Derived.Test.YtpaojgfmffkodaaGreatASl
namespace Go.Proofs.YtpaojgfmffkodaaGreat
set_option linter.unusedVariables false
set_option linter.unusedSimpArgs false
open Go.RowKit Go.Sort
attribute [local go_sem ↓] Go.wp_at_zero Go.wp_at_succ
def plSt (x : StR) (bg pd : List SlotR) : StP := ⟨erS x.s, erL x.L, bg, pd, x.dr⟩
def StOff (S : Nat → Prop) (w : World) (x : StR) : Prop := ∀ W : World, (∀ b, b < w.heap.size → ¬ S b → W.heap[b]? = w.heap[b]?) → w.heap.size ≤ W.heap.size →
 IsShop W x.s ∧ (∀ j ∈ x.L, IsInts W j.A j.c j.ms ∧ j.ms.length < 4611686018427387904) ∧ IsSlots W x.gA x.gc x.bg ∧ IsSlots W x.pA x.pc x.pd ∧ IsRow encB 1 W x.dA x.dc x.dr
def offS (T : Nat → Prop) (A : Option Addr) (b : Nat) : Prop := T b ∨ blockOf A = some b
theorem offS_new {w : World} {T : Nat → Prop} {A : Option Addr} (ho : ∀ b, T b → b < w.heap.size) (hA : ∀ b, blockOf A = some b → b < w.heap.size) {b : Nat} (hb : w.heap.size ≤ b) : ¬ offS T A b := by
 rintro (h | h)
 · have := ho b h
   omega
 · have := hA b h
   omega
theorem StOff.change {S : Nat → Prop} {w w' : World} {x : StR} (h : StOff S w x) (hb : ∀ b, b < w.heap.size → ¬ S b → w'.heap[b]? = w.heap[b]?) (hs : w.heap.size ≤ w'.heap.size) : StOff S w' x := fun W hW hWs =>
 h W (fun b hlt hn => (hW b (Nat.lt_of_lt_of_le hlt hs) hn).trans (hb b hlt hn)) (Nat.le_trans hs hWs)
theorem StOff.of {S : Nat → Prop} {w w' : World} {x : StR} (h : StOff S w x) (hs : SinceOf w w') : StOff S w' x := h.change (fun b hb _ => hs.below.block b hb) hs.size
theorem StOff.less {S S' : Nat → Prop} {w : World} {x : StR} (h : StOff S w x) (hs : ∀ b, b < w.heap.size → S' b → S b) : StOff S' w x := fun W hW hWs => h W (fun b hb hn => hW b hb (fun k => hn (hs b hb k))) hWs
theorem StOff.more {S S' : Nat → Prop} {w w' : World} {x : StR} (h : StOff S w x) (hs : SinceOf w w') (hS : ∀ b, b < w.heap.size → S' b → S b) : StOff S' w' x := fun W hW hWs =>
 h W (fun b hb hn => (hW b (Nat.lt_of_lt_of_le hb hs.size) (fun k => hn (hS b hb k))).trans (hs.below.block b hb)) (Nat.le_trans hs.size hWs)
structure EvOut (w w' : World) (b0 : Nat) (x x' : StR) : Prop where
 st : IsState w' x'
 off : ∀ T : Nat → Prop, (∀ b, T b → b < w.heap.size) → StOff (offS T x.A) w x → StOff (offS T x'.A) w' x'
 jobs : Owns encJ 6 b0 87 w' x'.A x'.c x'.L
 slots : x'.gA = x.gA ∧ x'.gc = x.gc ∧ x'.bg = x.bg ∧ x'.pA = x.pA ∧ x'.pc = x.pc ∧ x'.pd = x.pd
 lens : x'.s.cals.length = x.s.cals.length ∧ x'.L.length ≤ x.L.length + 1 ∧ x'.dr.length + x.L.length = x'.L.length + x.dr.length
 since : SinceOf w w'
theorem EvOut.same {w w' : World} {b0 : Nat} {x : StR} (h : IsState w x) (hj : Owns encJ 6 b0 87 w x.A x.c x.L) (hs : SinceOf w w') : EvOut w w' b0 x x :=
 ⟨h.of hs, fun _ _ k => k.of hs, hj.of hs, ⟨rfl, rfl, rfl, rfl, rfl, rfl⟩, ⟨rfl, by omega, by omega⟩, hs⟩
theorem infoRJob : (Tryz.prog.info? 87).map (fun i => (i.zero, i.size, i.bytes)) = some (some (.agg #[.slice none 0 0, .int .i64 0, .int .i64 0, .int .i64 0, .int .i64 0, .int .i64 0]), 6, 64) := by kernel_rfl
theorem infoRCal : (Tryz.prog.info? 103).map (fun i => (i.zero, i.size, i.bytes)) = some (some (.agg #[.int .i64 0, .slice none 0 0, .slice none 0 0]), 3, 56) := by kernel_rfl
theorem owns_emptyAt {α : Type} {enc : α → List Value} {k : Nat} {e : TypeId} (W : World) (b n : Nat) (hn : W.heap.size = n) (hb : b ≤ n) : Owns enc k b e (W.alloc (.cells #[] e)) (some ⟨n, 0, none⟩) 0 [] := by
 subst hn
 refine ⟨by simp, .inr ⟨W.heap.size, 0, #[], rfl, hb, ?_, Nat.le_refl _, Nat.zero_le _, by simp, by simp⟩⟩
 show (W.heap.push _)[W.heap.size]? = _
 simp
theorem IsRow.moved {α : Type} {enc : α → List Value} {k : Nat} {w w' : World} {A : Option Addr} {c : Nat} {l : List α} (h : IsRow enc k w A c l) (hb : ∀ b, blockOf A = some b → b < w.heap.size → w'.heap[b]? = w.heap[b]?) (hs : w.heap.size ≤ w'.heap.size) : IsRow enc k w' A c l := by
 refine ⟨h.1, ?_⟩
 rcases h.2 with h2 | ⟨g, off, rfl, h2⟩
 · exact .inl h2
 · have hlt : g < w.heap.size := h2.there.elim fun t => t.lt
   have e := hb g rfl hlt
   refine .inr ⟨g, off, rfl, fun i hi j u hu => ?_, ⟨⟨Nat.lt_of_lt_of_le hlt hs⟩⟩⟩
   have := h2.cells i hi j u hu
   unfold World.cell? at this ⊢
   rw [show w'.heap[(⟨g, off + i * k + j, none⟩ : Addr).block]? = w.heap[g]? from e]
   exact this
theorem setCal3 {b0 q c i : Nat} {e : TypeId} {W : World} {l : List CalR} (h : Owns encC 3 b0 e W (some ⟨q, 0, none⟩) c l) (hi : i < l.length) (K : CalR) :
 Owns encC 3 b0 e (((W.setCell ⟨q, i * 3, none⟩ (.int .i64 K.P)).setCell ⟨q, i * 3 + 1, none⟩ (.slice K.A K.S.length K.c)).setCell ⟨q, i * 3 + 2, none⟩ (.slice K.B K.D.length K.d)) (some ⟨q, 0, none⟩) c (l.set i K) := by
 have h1 := h.putAt encC_len (by omega) i hi 0 (by omega) (.int .i64 K.P) ⟨K.P, l[i].A, l[i].c, l[i].S, l[i].B, l[i].d, l[i].D⟩ rfl
 have h2 := h1.putAt encC_len (by omega) i (by simpa using hi) 1 (by omega) (.slice K.A K.S.length K.c) ⟨K.P, K.A, K.c, K.S, l[i].B, l[i].d, l[i].D⟩ (by rw [List.getElem_set_self]; rfl)
 have h3 := h2.putAt encC_len (by omega) i (by simpa using hi) 2 (by omega) (.slice K.B K.D.length K.d) K (by rw [List.getElem_set_self]; rfl)
 rw [List.set_set, List.set_set, Nat.add_zero] at h3
 exact h3
def closedRes (x : StP) (m : Int) : Option (List (Int × Int)) → Int × StP
 | some M => (0, ⟨setCal x.s m ⟨(calAt x.s m).P, none, 0, (calAt x.s m).S, none, 0, M⟩, x.L, x.bg, x.pd, x.dr⟩)
 | none => (9, x)
set_option maxRecDepth 100000 in
set_option maxHeartbeats 16000000 in
theorem refEvClose (b0 : Nat) (x : StR) (B : Option Addr) (d : Nat) (plan : List SlotR) (now : Int) (bgP pdP : List SlotR) (i : Nat) (vf vt : Int) (w : World) (res : Int × StP) (hx : IsState w x) (hj : Owns encJ 6 b0 87 w x.A x.c x.L) (hb : b0 ≤ w.heap.size) (hn : x.s.cals.length ≤ 1000000) (hi : i < x.s.cals.length) (e4 : ¬ (vf < now ∨ vt < vf ∨ 1000000 < vt))
 (hres : res = closedRes (plSt x bgP pdP) i (closeV (calAt (plSt x bgP pdP).s i).P (calAt (plSt x bgP pdP).s i).S (calAt (plSt x bgP pdP).s i).D vf vt)) :
 Calls Tryz.prog 43 #[stateV x, .slice B plan.length d, .int .i64 now, evV ⟨1, i, vf, vt, 0⟩] w fun e w' => ∃ x' : StR, e = .returned (.tuple #[stateV x', .int .i64 res.1]) ∧ plSt x' bgP pdP = res.2 ∧ EvOut w w' b0 x x' := by
 have HW := Lib.hid (And.intro hx hj)
 have hcs := hx.shop.cals
 obtain ⟨q, o, hq, hlive⟩ := hcs.row.at_ (by omega)
 have hO2 := hlive.there
 have j0 := hlive.k0 i hi
 have j1 := hlive.k1 i hi
 have j2 := hlive.k2 i hi
 have hall := hcs.all _ (List.getElem_mem hi)
 have hcal : calAt (plSt x bgP pdP).s i = erC x.s.cals[i] := by show calAt (erS x.s) i = _; rw [calAt_er, calAt_at hi]
 rw [hcal] at hres
 have CL := fun W (hW : SinceOf w W) => refClose_any vf vt (hall.of hW)
 have HCS := Lib.hid hcs
 obtain ⟨i0, ii, iz0, iz1, iz2⟩ := info_parts infoRCal
 have HI := Lib.hid (And.intro ii (And.intro iz0 (And.intro iz1 iz2)))
 have e5 : ¬ (i : Int) < 0 := by omega
 have e6 : ¬ (x.s.cals.length : Int) ≤ (i : Int) := by omega
 have e7 : ¬ vf < now := by omega
 have e8 : ¬ vt < vf := by omega
 have e9 : ¬ 1000000 < vt := by omega
 obtain ⟨⟨sA, sc, cals, sB, sd, R, most⟩, A, c, L, gA, gc, bg, pA, pc, pd, dA, dc, dr⟩ := x
 simp only at hn hi hq j0 j1 j2 CL e6 hres
 subst hq
 obtain ⟨K, hK⟩ : ∃ K, K = cals[i] := ⟨_, rfl⟩
 rw [← hK] at j0 j1 j2 CL hres
 obtain ⟨kP, kA, kc, kS, kB, kd, kD⟩ := K
 simp only at j0 j1 j2 CL
 have HRES := Lib.hid hres
 have HK := Lib.hid hK
 clear hx hj hcs hall hcal hlive ii iz0 iz1 iz2 e4 hres hK
 go_enter Tryz.func43, Tryz.ntmps43
 go_upto_region 10 with fail
 go_cut [10, 11] (fun s10 s11 wx => ∃ (t : Nat) (er P' : Int) (A' : Option Addr) (n' c' : Nat) (B' : Option Addr) (m' d' : Nat) (S' D' : List (Int × Int)), s10 = .pointer (some ⟨t, 0, none⟩) ∧ s11 = .int .i64 er ∧ wx.heap[t]? = some (Obj.cells #[.int .i64 P', .slice A' n' c', .slice B' m' d'] 103 (0, 0)) ∧ IsCal wx P' A' n' c' B' m' d' S' D' ∧ CloseR kP kS kD vf vt er P' S' D' ∧ (∀ b, blockOf A' = some b → w.heap.size + 1 + 1 + 1 ≤ b) ∧ (∀ b, blockOf B' = some b → w.heap.size + 1 + 1 + 1 ≤ b) ∧ w.heap.size + 1 + 1 + 1 ≤ t ∧ SinceOf (((w.alloc (.cells #[.slice (some ⟨q, o, none⟩) cals.length sc, .slice sB R.length sd, .int .i64 most, .slice A L.length c, .slice gA bg.length gc, .slice pA pd.length pc, .slice dA dr.length dc] 52)).alloc (.cells #[.int .i64 1, .int .i64 i, .int .i64 vf, .int .i64 vt, .int .i64 0] 79)).alloc (.cells #[.slice none 0 0, .slice none 0 0, .int .i64 0, .slice none 0 0, .slice none 0 0, .slice none 0 0, .slice none 0 0] 52)) wx)
 case first =>
  go_region_held3 (fun w' => w'.cell? ⟨w.heap.size, 0, none⟩ = some (.slice (some ⟨q, o, none⟩) cals.length sc) ∧ w'.cell? ⟨w.heap.size + 1, 1, none⟩ = some (.int .i64 i) ∧ w'.cell? ⟨w.heap.size + 1, 2, none⟩ = some (.int .i64 vf) ∧ w'.cell? ⟨w.heap.size + 1, 3, none⟩ = some (.int .i64 vt) ∧ w'.cell? ⟨q, o + i * 3, none⟩ = some (.int .i64 kP) ∧ w'.cell? ⟨q, o + i * 3 + 1, none⟩ = some (.slice kA kS.length kc) ∧ w'.cell? ⟨q, o + i * 3 + 2, none⟩ = some (.slice kB kD.length kd)) ((simp [go_sem, *]))
   (first
     | (go_at_call 82; refine (CL _ Sx).mono ?_; rintro e _ ⟨⟨z5, rfl⟩, er, P', A', n', c', B', m', d', S', D', rfl, hcal, hR, hf1, hf2⟩; have hzz := z5.size; (try simp at hzz)))
  all_goals go_wp2_with fail
  all_goals go_meet
  all_goals
   refine ⟨_, er, P', A', n', c', B', m', d', S', D', rfl, rfl, ?_, ?_, hR, ?_, ?_, ?_, ?_⟩
   · first
     | exact alloc_at _ _ _ rfl
     | exact set_block (set_block (set_block (heapMade ((SinceOf.refl _).drew.trans ⟨z5, rfl⟩) (by simp)) _) _) _
   · first
     | (refine hcal.of ?_
        (repeat (with_reducible first | exact Sr _ | assumption | refine Sa ?_ _ | refine Sd ?_ | refine Sn ?_ _ | refine Se ?_ _ | refine Sf ?_ _ | refine Sc ?_ (by first | exact Nat.le_refl _ | (simp; done) | omega | (simp; omega)) _))
        done)
     | (obtain ⟨g1, g2, g3, g4, g5, g6⟩ := hcal
        have n1 : ∀ b, blockOf A' = some b → b ≠ w.heap.size + 1 + 1 + 1 := fun b hb => by have := hf1 b hb; simp at this; omega
        have n2 : ∀ b, blockOf B' = some b → b ≠ w.heap.size + 1 + 1 + 1 := fun b hb => by have := hf2 b hb; simp at this; omega
        exact ⟨g1, g2, ((g3.setOther _ _ _ n1).setOther _ _ _ n1).setOther _ _ _ n1, ((g4.setOther _ _ _ n2).setOther _ _ _ n2).setOther _ _ _ n2, g5, g6⟩)
   · exact fun b hb => by have := hf1 b hb; simp at this; omega
   · exact fun b hb => by have := hf2 b hb; simp at this; omega
   · omega
   · (repeat (with_reducible first | exact Sr _ | assumption | refine Sa ?_ _ | refine Sd ?_ | refine Sn ?_ _ | refine Se ?_ _ | refine Sf ?_ _ | refine Sc ?_ (by first | exact Nat.le_refl _ | (simp; done) | omega | (simp; omega)) _))
 case rest =>
  obtain ⟨t, er, P', A', n', c', B', m', d', S', D', rfl, rfl, hcell, hcal, hR, hfA, hfB, htb, ⟨z, rfl⟩⟩ := hcut
  have hq := closeR_fn hR
  obtain ⟨cv, hcv⟩ : ∃ cv, closeV kP kS kD vf vt = cv := ⟨_, rfl⟩
  have hres2 : res = closedRes (plSt ⟨⟨some ⟨q, o, none⟩, sc, cals, sB, sd, R, most⟩, A, c, L, gA, gc, bg, pA, pc, pd, dA, dc, dr⟩ bgP pdP) i cv := by rw [← hcv]; exact HRES.out
  rw [hcv] at hq
  have hz := z.size
  simp at hz
  have hOt : Nonempty (Old z.wd t) := ⟨⟨heap_lt hcell⟩⟩
  cases cv with
  | none =>
    have hq2 : (er != 0) = true := by simpa using hq
    clear HRES
    subst hres2
    clear hq hcell hcal hR hfA hfB htb hcv
    go_wp2_with fail
    go_returns
    exact ⟨_, rfl, rfl, EvOut.same HW.out.1 HW.out.2 Sx⟩
  | some M =>
    obtain ⟨rfl, rfl, rfl, rfl⟩ := hq
    obtain ⟨rfl, rfl, hrA, hrB, hl1, hl2⟩ := hcal
    have htz := heap_lt hcell
    have HCELL := Lib.hid hcell
    have HC := Lib.hid (And.intro hrA (And.intro hrB (And.intro hl1 (And.intro hl2 (And.intro hfA hfB)))))
    have HR2 := Lib.hid hres2
    clear hcell hrA hrB hl1 hl2 hfA hfB hR hres2 HRES hcv
    go_wp2_with (
     at_builtin
     refine wpList_append_row rfl (.tmp 70) (.tmp 73) 22 rfl encC_len (by omega) encC_one i0 _ 56 Tryz.underlying22 HI.out.1 HI.out.2.1 HI.out.2.2.1 HI.out.2.2.2 rfl (l := []) (A := some ⟨z.wd.heap.size, 0, none⟩) (c := 0) (base := w.heap.size + 1 + 1 + 1) rfl (owns_emptyAt _ _ _ rfl (by omega)) (m := cals) (by rfl) (HCS.out.row.of Sx) (by unfold maxLen; simp; omega) (by simp; omega) (by simp; omega) ?_
     intro A3 c3 w3 hown3 hgr3 hbl3
     have hs3 : SinceOf z.wd w3 := SinceOf.grown Sx hgr3 (fun q5 hq5 => by simp [blockOf] at hq5; omega)
     have hcell3 := heapAt HCELL.out hs3
     have HS3 := Lib.hid hs3
     have hs3b : SinceOf (((w.alloc (.cells #[.slice (some ⟨q, o, none⟩) cals.length sc, .slice sB R.length sd, .int .i64 most, .slice A L.length c, .slice gA bg.length gc, .slice pA pd.length pc, .slice dA dr.length dc] 52)).alloc (.cells #[.int .i64 1, .int .i64 i, .int .i64 vf, .int .i64 vt, .int .i64 0] 79)).alloc (.cells #[.slice none 0 0, .slice none 0 0, .int .i64 0, .slice none 0 0, .slice none 0 0, .slice none 0 0, .slice none 0 0] 52)) w3 := (show SinceOf (((w.alloc (.cells #[.slice (some ⟨q, o, none⟩) cals.length sc, .slice sB R.length sd, .int .i64 most, .slice A L.length c, .slice gA bg.length gc, .slice pA pd.length pc, .slice dA dr.length dc] 52)).alloc (.cells #[.int .i64 1, .int .i64 i, .int .i64 vf, .int .i64 vt, .int .i64 0] 79)).alloc (.cells #[.slice none 0 0, .slice none 0 0, .int .i64 0, .slice none 0 0, .slice none 0 0, .slice none 0 0, .slice none 0 0] 52)) z.wd from ⟨z, rfl⟩).trans hs3
     have hz3 := hs3.size
     clear hs3
     obtain ⟨z3, rfl⟩ := hs3b
     have v0 := cell_of (i := 0) hcell3 rfl
     have v1 := cell_of (i := 1) hcell3 rfl
     have v2 := cell_of (i := 2) hcell3 rfl
     have hOt3 : Nonempty (Old z3.wd t) := ⟨⟨heap_lt hcell3⟩⟩
     clear hcell3
     rw [List.nil_append] at hown3
     obtain ⟨q3, rfl, hq3b, hlive3⟩ := hown3.live encC_len (by omega)
     have hq3t : z.wd.heap.size ≤ q3 := by
      rcases hbl3 with h | h
      · simp [blockOf] at h; omega
      · simp [blockOf] at h; omega
     have hO3 := hlive3.row.there
     have k0 := hlive3.row.k0 i hi
     have k1 := hlive3.row.k1 i hi
     have k2 := hlive3.row.k2 i hi
     have f0 := hlive3.free (i * 3) (by omega)
     have f1 := hlive3.free (i * 3 + 1) (by omega)
     have f2 := hlive3.free (i * 3 + 2) (by omega)
     simp only [Nat.zero_add] at k0 k1 k2 f0 f1 f2
     have pa1 : Nonempty (Apart t q3) := ⟨⟨by omega⟩⟩
     have pa2 : Nonempty (Apart q3 t) := ⟨⟨by omega⟩⟩
     have pa3 : Nonempty (Apart w.heap.size q3) := ⟨⟨by omega⟩⟩
     have pa4 : Nonempty (Apart q3 w.heap.size) := ⟨⟨by omega⟩⟩
     have pa5 : Nonempty (Apart (w.heap.size + 1) q3) := ⟨⟨by omega⟩⟩
     have pa6 : Nonempty (Apart q3 (w.heap.size + 1)) := ⟨⟨by omega⟩⟩
     have HL := Lib.hid (And.intro (setCal3 hown3 hi ⟨P', A', c', S', B', d', D'⟩) hgr3)
     rw [← HK.out] at k0 k1 k2
     simp only at k0 k1 k2
     clear hown3 hlive3 hgr3 hbl3)
    go_returns
    have hcal : calAt (erS ⟨some ⟨q, o, none⟩, sc, cals, sB, sd, R, most⟩) i = erC ⟨P', kA, kc, S', kB, kd, kD⟩ := by rw [calAt_er, calAt_at hi]; exact congrArg erC HK.out.symm
    have hsw : SinceOf w z3.wd := (show SinceOf w z.wd from Sx).trans HS3.out
    have key : ∀ WF : World, (∀ b, b ≠ w.heap.size → b ≠ w.heap.size + 1 + 1 → WF.heap[b]? = ((((z3.wd.setCell ⟨q3, i * 3, none⟩ (.int .i64 P')).setCell ⟨q3, i * 3 + 1, none⟩ (.slice A' S'.length c')).setCell ⟨q3, i * 3 + 2, none⟩ (.slice B' D'.length d'))).heap[b]?) → z3.wd.heap.size ≤ WF.heap.size → SinceOf w WF →
     EvOut w WF b0 ⟨⟨some ⟨q, o, none⟩, sc, cals, sB, sd, R, most⟩, A, c, L, gA, gc, bg, pA, pc, pd, dA, dc, dr⟩ ⟨⟨some ⟨q3, 0, none⟩, c3, cals.set i ⟨P', A', c', S', B', d', D'⟩, sB, sd, R, most⟩, A, c, L, gA, gc, bg, pA, pc, pd, dA, dc, dr⟩ := by
     intro WF hWF hsz hsW
     have old := HW.out.1.of hsW
     have fresh : ∀ {α : Type} {enc : α → List Value} {k : Nat} {A5 : Option Addr} {c5 : Nat} {l5 : List α}, IsRow enc k z.wd A5 c5 l5 → (∀ b, blockOf A5 = some b → w.heap.size + 1 + 1 + 1 ≤ b) → IsRow enc k WF A5 c5 l5 := fun hr hf => hr.moved (fun b hb hlt => by
      have h1 := hf b hb
      rw [hWF b (by omega) (by omega), setHeap_ne (by omega), setHeap_ne (by omega), setHeap_ne (by omega)]
      exact HS3.out.below.block b hlt) (by omega)
     have row : IsRow encC 3 WF (some ⟨q3, 0, none⟩) c3 (cals.set i ⟨P', A', c', S', B', d', D'⟩) := (HL.out.1.sameBlock (fun b hb => hWF b (by simp [blockOf] at hb; omega) (by simp [blockOf] at hb; omega))).isRow encC_len
     have mk : ∀ W : World, IsCals W (some ⟨q, o, none⟩) sc cals → (∀ {α : Type} {enc : α → List Value} {k : Nat} {A5 : Option Addr} {c5 : Nat} {l5 : List α}, IsRow enc k WF A5 c5 l5 → (∀ b, blockOf A5 = some b → w.heap.size ≤ b) → IsRow enc k W A5 c5 l5) → IsCals W (some ⟨q3, 0, none⟩) c3 (cals.set i ⟨P', A', c', S', B', d', D'⟩) := by
      intro W oldC fr
      refine ⟨fr row (fun b hb => by simp [blockOf] at hb; omega), fun y hy => ?_, by simp only [List.length_set]; omega⟩
      rcases List.mem_or_eq_of_mem_set hy with hy | rfl
      · exact oldC.all y hy
      · exact ⟨rfl, rfl, fr (fresh HC.out.1 HC.out.2.2.2.2.1) (fun b hb => by have := HC.out.2.2.2.2.1 b hb; omega), fr (fresh HC.out.2.1 HC.out.2.2.2.2.2) (fun b hb => by have := HC.out.2.2.2.2.2 b hb; omega), HC.out.2.2.1, HC.out.2.2.2.1⟩
     refine ⟨⟨⟨mk WF old.shop.cals (fun h _ => h), old.shop.rows⟩, old.jobs, old.bg, old.pd, old.dr⟩, fun o9 ho9 h W hW hWs => ?_, HW.out.2.of hsW, ⟨rfl, rfl, rfl, rfl, rfl, rfl⟩, ⟨by simp only [List.length_set], by simp only; omega, by simp only; omega⟩, hsW⟩
     have hsz2 := hsW.size
     obtain ⟨o1, o2, o3, o4, o5⟩ := h W (fun b hb hn => (hW b (by omega) hn).trans (hsW.below.block b hb)) (by omega)
     exact ⟨⟨mk W o1.cals (fun h hf => h.moved (fun b hb hlt => hW b hlt (offS_new ho9 (fun b hb => (HW.out.2.below b hb).2) (hf b hb))) hWs), o1.rows⟩, o2, o3, o4, o5⟩
    refine ⟨⟨⟨some ⟨q3, 0, none⟩, c3, cals.set i ⟨P', A', c', S', B', d', D'⟩, sB, sd, R, most⟩, A, c, L, gA, gc, bg, pA, pc, pd, dA, dc, dr⟩, ?_, ?_, key _ ?_ (by simp) ?_⟩
    · rw [HR2.out]
      simp only [stateV, List.length_set]
      rfl
    · rw [HR2.out]
      have e := erC_set (s := ⟨some ⟨q3, 0, none⟩, c3, cals, sB, sd, R, most⟩) (i := i) (K := ⟨P', A', c', S', B', d', D'⟩)
      show StP.mk _ _ _ _ _ = StP.mk (setCal (erS ⟨some ⟨q, o, none⟩, sc, cals, sB, sd, R, most⟩) i ⟨(calAt (erS ⟨some ⟨q, o, none⟩, sc, cals, sB, sd, R, most⟩) i).P, none, 0, (calAt (erS ⟨some ⟨q, o, none⟩, sc, cals, sB, sd, R, most⟩) i).S, none, 0, D'⟩) _ _ _ _
      rw [hcal, e]
      rfl
    · intro b h1 h2
      (repeat (refine (setHeap_ne (by omega)).trans ?_))
      rfl
    · (repeat (with_reducible first | exact Sr _ | assumption | refine Sa ?_ _ | refine Sd ?_ | refine Sn ?_ _ | refine Se ?_ _ | refine Sf ?_ _ | refine Sc ?_ (by first | exact Nat.le_refl _ | (simp; done) | omega | (simp; omega)) _))
end Go.Proofs.YtpaojgfmffkodaaGreat
/- Layer 54: the reference's event, a job is dropped. -/
namespace Go.Proofs.YtpaojgfmffkodaaGreat
set_option linter.unusedVariables false
set_option linter.unusedSimpArgs false
open Go.RowKit Go.Sort
attribute [local go_sem ↓] Go.wp_at_zero Go.wp_at_succ
set_option maxRecDepth 100000 in
set_option maxHeartbeats 16000000 in
theorem refEvDrop (b0 : Nat) (x : StR) (B : Option Addr) (d : Nat) (plan : List SlotR) (now : Int) (bgP pdP : List SlotR) (i : Nat) (w : World) (res : Int × StP) (hx : IsState w x) (hj : Owns encJ 6 b0 87 w x.A x.c x.L) (hb : b0 ≤ w.heap.size) (hL : x.L.length ≤ 1000000) (hdl : x.dr.length = x.L.length) (BG : ∀ W, SinceOf w W → Gives Tryz.prog 44 #[.slice B plan.length d, .int .i64 now, .int .i64 i] W (.bool (begunJ bgP i))) (hi : i < x.L.length)
 (hres : res = dropV (plSt x bgP pdP) i) :
 Calls Tryz.prog 43 #[stateV x, .slice B plan.length d, .int .i64 now, evV ⟨3, 0, 0, 0, i⟩] w fun e w' => ∃ x' : StR, e = .returned (.tuple #[stateV x', .int .i64 res.1]) ∧ plSt x' bgP pdP = res.2 ∧ EvOut w w' b0 x x' := by
 have HW := Lib.hid (And.intro hx hj)
 have HDL := Lib.hid hdl
 clear hdl
 have hLl : (plSt x bgP pdP).L.length = x.L.length := erL_length x.L
 have e5 : ¬ (i : Int) < 0 := by omega
 have e6 : ¬ (x.L.length : Int) ≤ (i : Int) := by omega
 unfold dropV at hres
 simp only [Int.toNat_natCast] at hres
 have hid : i < x.dr.length := by have := HDL.out; omega
 have hdr := hx.dr
 obtain ⟨qd, od, hqd, hlive⟩ := hdr.at_ (by omega)
 have hO2 := hlive.there
 have d0 : w.cell? ⟨qd, od + i, none⟩ = some (.bool x.dr[i]) := by
  have := hlive.cells i hid 0 (.bool x.dr[i]) rfl
  simpa using this
 have hdi : (plSt x bgP pdP).dr.getD i false = x.dr[i] := by show x.dr.getD i false = _; rw [List.getD_eq_getElem?_getD, List.getElem?_eq_getElem hid, Option.getD_some]
 rw [hdi, show (plSt x bgP pdP).bg = bgP from rfl] at hres
 generalize hbv : begunJ bgP i = bv at *
 have HDV := Lib.hid hdr
 generalize hdv : x.dr[i] = dv at *
 obtain ⟨b0i, bi, bz0, bz1, bz2⟩ := info_parts infoBool
 have BI := Lib.hid (And.intro bi (And.intro bz0 (And.intro bz1 bz2)))
 obtain ⟨⟨sA, sc, cals, sB, sd, R, most⟩, A, c, L, gA, gc, bg, pA, pc, pd, dA, dc, dr⟩ := x
 simp only at hL hi e6 hid hqd
 subst hqd
 have hdb : dr.length ≤ 1000000 := by have := HDL.out; simp only at this; omega
 clear hx hj hLl hdi hlive bi bz0 bz1 bz2 hdr hdv
 cases bv
 · cases dv
   · rw [if_neg (by decide)] at hres
     have HRES := Lib.hid hres
     clear hres
     go_enter Tryz.func43, Tryz.ntmps43
     go_wp2_with fail
     refine (BG _ Sx).calls.mono ?_
     rintro e _ ⟨rfl, z1, rfl⟩
     have hz1 := z1.size
     (try simp at hz1)
     go_wp2_with (
      at_builtin
      refine wpList_append_row rfl (.tmp 130) (.tmp 132) 40 rfl encB_len (by omega) encB_one1 b0i _ 1 Tryz.underlying40 BI.out.1 BI.out.2.1 BI.out.2.2.1 BI.out.2.2.2 rfl (l := []) (A := some ⟨z1.wd.heap.size, 0, none⟩) (c := 0) (base := w.heap.size + 1 + 1 + 1) rfl (owns_emptyAt _ _ _ rfl (by omega)) (m := dr) (by rfl) (HDV.out.of Sx) (by unfold maxLen; simp; omega) (by simp; omega) (by simp; omega) ?_
      intro A3 c3 w3 hown3 hgr3 hbl3
      have hs3 : SinceOf z1.wd w3 := SinceOf.grown Sx hgr3 (fun q5 hq5 => by simp [blockOf] at hq5; omega)
      have hz3 := hs3.size
      have hs3b : SinceOf (((w.alloc (.cells #[.slice sA cals.length sc, .slice sB R.length sd, .int .i64 most, .slice A L.length c, .slice gA bg.length gc, .slice pA pd.length pc, .slice (some ⟨qd, od, none⟩) dr.length dc] 52)).alloc (.cells #[.int .i64 3, .int .i64 0, .int .i64 0, .int .i64 0, .int .i64 i] 79)).alloc (.cells #[.slice none 0 0, .slice none 0 0, .int .i64 0, .slice none 0 0, .slice none 0 0, .slice none 0 0, .slice none 0 0] 52)) w3 := (show SinceOf (((w.alloc (.cells #[.slice sA cals.length sc, .slice sB R.length sd, .int .i64 most, .slice A L.length c, .slice gA bg.length gc, .slice pA pd.length pc, .slice (some ⟨qd, od, none⟩) dr.length dc] 52)).alloc (.cells #[.int .i64 3, .int .i64 0, .int .i64 0, .int .i64 0, .int .i64 i] 79)).alloc (.cells #[.slice none 0 0, .slice none 0 0, .int .i64 0, .slice none 0 0, .slice none 0 0, .slice none 0 0, .slice none 0 0] 52)) z1.wd from Sx).trans hs3
      clear hs3
      obtain ⟨z3, rfl⟩ := hs3b
      rw [List.nil_append] at hown3
      obtain ⟨q3, rfl, hq3b, hlive3⟩ := hown3.live encB_len (by omega)
      have hO3 := hlive3.row.there
      have k0 : z3.wd.cell? ⟨q3, i, none⟩ = some (.bool dr[i]) := by
       have := hlive3.row.cells i hid 0 (.bool dr[i]) rfl
       simpa using this
      have f0 : z3.wd.frozen? ⟨q3, i, none⟩ = false := by
       have := hlive3.free i (by omega)
       simpa using this
      have pa3 : Nonempty (Apart w.heap.size q3) := ⟨⟨by omega⟩⟩
      have pa4 : Nonempty (Apart q3 w.heap.size) := ⟨⟨by omega⟩⟩
      have pa5 : Nonempty (Apart (w.heap.size + 1) q3) := ⟨⟨by omega⟩⟩
      have pa6 : Nonempty (Apart q3 (w.heap.size + 1)) := ⟨⟨by omega⟩⟩
      have hown4 := (hown3.setNe (g := w.heap.size) (i := 6) (u := .slice (some ⟨q3, 0, none⟩) dr.length c3) (fun b hb => by simp [blockOf] at hb; omega)).putAt encB_len (by omega) i hid 0 (by omega) (.bool true) true rfl
      rw [Nat.mul_one, Nat.add_zero] at hown4
      have HO := Lib.hid hown4
      obtain ⟨ob, hob⟩ : ∃ ob, ob = dr[i] := ⟨_, rfl⟩
      rw [← hob] at k0
      clear hown3 hown4 hlive3 hgr3 hbl3 hob)
     go_returns
     have key : ∀ WF : World, (∀ b, b ≠ w.heap.size → b ≠ w.heap.size + 1 + 1 → WF.heap[b]? = ((z3.wd.setCell ⟨w.heap.size, 6, none⟩ (.slice (some ⟨q3, 0, none⟩) dr.length c3)).setCell ⟨q3, i, none⟩ (.bool true)).heap[b]?) → SinceOf w WF →
      EvOut w WF b0 ⟨⟨sA, sc, cals, sB, sd, R, most⟩, A, c, L, gA, gc, bg, pA, pc, pd, some ⟨qd, od, none⟩, dc, dr⟩ ⟨⟨sA, sc, cals, sB, sd, R, most⟩, A, c, L, gA, gc, bg, pA, pc, pd, some ⟨q3, 0, none⟩, c3, dr.set i true⟩ := by
      intro WF hWF hsW
      have old := HW.out.1.of hsW
      have row : IsRow encB 1 WF (some ⟨q3, 0, none⟩) c3 (dr.set i true) := (HO.out.sameBlock (fun b hb => hWF b (by simp [blockOf] at hb; omega) (by simp [blockOf] at hb; omega))).isRow encB_len
      refine ⟨⟨old.shop, old.jobs, old.bg, old.pd, row⟩, fun o9 ho9 h W hW hWs => ?_, HW.out.2.of hsW, ⟨rfl, rfl, rfl, rfl, rfl, rfl⟩, ⟨rfl, by simp only; omega, by simp only [List.length_set]; omega⟩, hsW⟩
      have hsz2 := hsW.size
      obtain ⟨o1, o2, o3, o4, o5⟩ := h W (fun b hb hn => (hW b (by omega) hn).trans (hsW.below.block b hb)) (by omega)
      exact ⟨o1, o2, o3, o4, row.moved (fun b hb hlt => hW b hlt (offS_new ho9 (fun b hb => (HW.out.2.below b hb).2) (by simp [blockOf] at hb; omega))) hWs⟩
     refine ⟨⟨⟨sA, sc, cals, sB, sd, R, most⟩, A, c, L, gA, gc, bg, pA, pc, pd, some ⟨q3, 0, none⟩, c3, dr.set i true⟩, ?_, ?_, key _ ?_ ?_⟩
     · rw [HRES.out]
       simp only [stateV, List.length_set]
     · rw [HRES.out]
       rfl
     · intro b h1 h2
       (repeat (refine (setHeap_ne (by omega)).trans ?_))
       rfl
     · (repeat (with_reducible first | exact Sr _ | assumption | refine Sa ?_ _ | refine Sd ?_ | refine Sn ?_ _ | refine Se ?_ _ | refine Sf ?_ _ | refine Sc ?_ (by first | exact Nat.le_refl _ | (simp; done) | omega | (simp; omega)) _))
   · rw [if_pos (by decide)] at hres
     subst hres
     go_enter Tryz.func43, Tryz.ntmps43
     go_wp2_with fail
     refine (BG _ Sx).calls.mono ?_
     rintro e _ ⟨rfl, z1, rfl⟩
     go_wp2_with fail
     go_returns
     exact ⟨_, rfl, rfl, EvOut.same HW.out.1 HW.out.2 Sx⟩
 · rw [if_pos (by cases dv <;> rfl)] at hres
   subst hres
   go_enter Tryz.func43, Tryz.ntmps43
   go_wp2_with fail
   refine (BG _ Sx).calls.mono ?_
   rintro e _ ⟨rfl, z1, rfl⟩
   go_wp2_with fail
   go_returns
   exact ⟨_, rfl, rfl, EvOut.same HW.out.1 HW.out.2 Sx⟩
end Go.Proofs.YtpaojgfmffkodaaGreat
/- Layer 54: the reference's event, a job is repeated. -/
namespace Go.Proofs.YtpaojgfmffkodaaGreat
set_option linter.unusedVariables false
set_option linter.unusedSimpArgs false
open Go.RowKit Go.Sort
attribute [local go_sem ↓] Go.wp_at_zero Go.wp_at_succ
set_option maxRecDepth 100000 in
set_option maxHeartbeats 16000000 in
theorem refEvAgain (b0 : Nat) (x : StR) (B : Option Addr) (d : Nat) (plan : List SlotR) (now : Int) (bgP pdP : List SlotR) (i : Nat) (w : World) (res : Int × StP) (hx : IsState w x) (hj : Owns encJ 6 b0 87 w x.A x.c x.L) (hb : b0 ≤ w.heap.size) (hL : x.L.length ≤ 1000000) (hdl : x.dr.length = x.L.length) (BG : ∀ W, SinceOf w W → Gives Tryz.prog 44 #[.slice B plan.length d, .int .i64 now, .int .i64 i] W (.bool (begunJ bgP i))) (hi : i < x.L.length)
 (hres : res = againV (plSt x bgP pdP) i) :
 Calls Tryz.prog 43 #[stateV x, .slice B plan.length d, .int .i64 now, evV ⟨2, 0, 0, 0, i⟩] w fun e w' => ∃ x' : StR, e = .returned (.tuple #[stateV x', .int .i64 res.1]) ∧ plSt x' bgP pdP = res.2 ∧ EvOut w w' b0 x x' := by
 have HW := Lib.hid (And.intro hx hj)
 have HDL := Lib.hid hdl
 clear hdl
 have hLl : (plSt x bgP pdP).L.length = x.L.length := erL_length x.L
 have e5 : ¬ (i : Int) < 0 := by omega
 have e6 : ¬ (x.L.length : Int) ≤ (i : Int) := by omega
 unfold againV at hres
 rw [hLl, show (plSt x bgP pdP).bg = bgP from rfl] at hres
 generalize hbv : begunJ bgP i = bv at *
 cases bv
 · rw [if_pos rfl] at hres
   subst hres
   obtain ⟨⟨sA, sc, cals, sB, sd, R, most⟩, A, c, L, gA, gc, bg, pA, pc, pd, dA, dc, dr⟩ := x
   simp only at hL hi e6
   clear hx hj hLl hbv
   go_enter Tryz.func43, Tryz.ntmps43
   go_wp2_with fail
   refine (BG _ Sx).calls.mono ?_
   rintro e _ ⟨rfl, z1, rfl⟩
   go_wp2_with fail
   go_returns
   exact ⟨_, rfl, rfl, EvOut.same HW.out.1 HW.out.2 Sx⟩
 · rw [if_neg (by decide)] at hres
   by_cases e8 : 40 ≤ x.L.length
   · rw [if_pos e8] at hres
     subst hres
     obtain ⟨⟨sA, sc, cals, sB, sd, R, most⟩, A, c, L, gA, gc, bg, pA, pc, pd, dA, dc, dr⟩ := x
     simp only at hL hi e6 e8
     have e9 : (40 : Int) ≤ (L.length : Int) := by omega
     clear hx hj hLl hbv e8
     go_enter Tryz.func43, Tryz.ntmps43
     go_wp2_with fail
     refine (BG _ Sx).calls.mono ?_
     rintro e _ ⟨rfl, z1, rfl⟩
     go_wp2_with fail
     go_returns
     exact ⟨_, rfl, rfl, EvOut.same HW.out.1 HW.out.2 Sx⟩
   · rw [if_neg e8] at hres
     have hji := hx.jobs.all _ (List.getElem_mem hi)
     obtain ⟨qj, oj, hqj, hlive⟩ := hx.jobs.row.at_ (by omega)
     have hO2 := hlive.there
     have j0 := hlive.j0 i hi
     have j1 := hlive.j1 i hi
     have j2 := hlive.j2 i hi
     have j3 := hlive.j3 i hi
     have j4 := hlive.j4 i hi
     have j5 := hlive.j5 i hi
     have hqjl : qj < w.heap.size := hlive.there.elim fun t => t.lt
     obtain ⟨i0, ii, iz0, iz1, iz2⟩ := info_parts infoRJob
     have HI := Lib.hid (And.intro ii (And.intro iz0 (And.intro iz1 iz2)))
     obtain ⟨b0i, bi, bz0, bz1, bz2⟩ := info_parts infoBool
     have BI := Lib.hid (And.intro bi (And.intro bz0 (And.intro bz1 bz2)))
     have hja : jobAt (plSt x bgP pdP).L i = erJ x.L[i] := by
      show jobAt (erL x.L) i = _
      rw [jobAt_er, jobAt_at hi]
     rw [hja] at hres
     have HJ := Lib.hid (And.intro hx.jobs (And.intro hji hx.dr))
     obtain ⟨⟨sA, sc, cals, sB, sd, R, most⟩, A, c, L, gA, gc, bg, pA, pc, pd, dA, dc, dr⟩ := x
     simp only at hL hi e6 e8 hqj j0 j1 j2 j3 j4 j5 hres
     subst hqj
     obtain ⟨jj, hjj⟩ : ∃ jj, jj = L[i] := ⟨_, rfl⟩
     rw [← hjj] at j0 j1 j2 j3 j4 j5 hres
     obtain ⟨jA, jc, ms, du, cl, re, de, od⟩ := jj
     simp only at j0 j1 j2 j3 j4 j5
     have HRES := Lib.hid (And.intro hres hjj)
     have e9 : ¬ (40 : Int) ≤ (L.length : Int) := by omega
     have hdb : dr.length ≤ 1000000 := by have := HDL.out; simp only at this; omega
     clear hx hj hLl hbv e8 hlive ii iz0 iz1 iz2 bi bz0 bz1 bz2 hja hres hjj hji
     go_enter Tryz.func43, Tryz.ntmps43
     go_wp2_with fail
     refine (BG _ Sx).calls.mono ?_
     rintro e _ ⟨rfl, z1, rfl⟩
     have hz1 := z1.size
     (try simp at hz1)
     go_upto_region 33 with fail
     go_cut [156] (fun s156 wx => ∃ (V : World) (A2 : Option Addr) (c2 : Nat), Owns encJ 6 (w.heap.size + 1 + 1 + 1) 87 V A2 c2 (L ++ [(⟨jA, jc, ms, du, cl, re, de, od⟩ : JobR)]) ∧ SinceOf (((w.alloc (.cells #[.slice sA cals.length sc, .slice sB R.length sd, .int .i64 most, .slice (some ⟨qj, oj, none⟩) L.length c, .slice gA bg.length gc, .slice pA pd.length pc, .slice dA dr.length dc] 52)).alloc (.cells #[.int .i64 2, .int .i64 0, .int .i64 0, .int .i64 0, .int .i64 i] 79)).alloc (.cells #[.slice none 0 0, .slice none 0 0, .int .i64 0, .slice none 0 0, .slice none 0 0, .slice none 0 0, .slice none 0 0] 52)) V ∧ wx = V.setCell ⟨w.heap.size, 3, none⟩ (.slice A2 (L.length + 1) c2))
     case first =>
      refine regionL [13] (S := (fun w' => w'.cell? ⟨w.heap.size, 3, none⟩ = some (.slice (some ⟨qj, oj, none⟩) L.length c) ∧ w'.cell? ⟨w.heap.size + 1, 4, none⟩ = some (.int .i64 i) ∧ w'.cell? ⟨qj, oj + i * 6, none⟩ = some (.slice jA ms.length jc) ∧ w'.cell? ⟨qj, oj + i * 6 + 1, none⟩ = some (.int .i64 du) ∧ w'.cell? ⟨qj, oj + i * 6 + 2, none⟩ = some (.int .i64 cl) ∧ w'.cell? ⟨qj, oj + i * 6 + 3, none⟩ = some (.int .i64 re) ∧ w'.cell? ⟨qj, oj + i * 6 + 4, none⟩ = some (.int .i64 de) ∧ w'.cell? ⟨qj, oj + i * 6 + 5, none⟩ = some (.int .i64 od))) (by kernel_rfl) ?_ (fun hHeld0 => ?_)
      · simp [go_sem, *]
      refine tK (i := 1) (d := some 154) (v := ?_) rfl rfl (fun _ _ _ h => h) (Or.inl ⟨by rfl, ?_⟩) (by assumption) ?_
      rotate_left 1
      · (intro w hSw; (try dsimp only at hSw); go_simp) <;> (with_reducible rfl)
      (try simp only [Act.put, List.setIfInBounds_toArray, List.set_cons_zero, List.set_cons_succ])
      refine tK (i := 2) (d := some 155) (v := ?_) rfl rfl (fun _ _ _ h => h) (Or.inl ⟨by rfl, ?_⟩) (by assumption) ?_
      rotate_left 1
      · (intro w hSw; (try dsimp only at hSw); go_simp) <;> (with_reducible rfl)
      (try simp only [Act.put, List.setIfInBounds_toArray, List.set_cons_zero, List.set_cons_succ])
      refine tK (i := 4) (d := some 157) (v := ?_) rfl rfl (fun _ _ _ h => h) (Or.inl ⟨by rfl, ?_⟩) (by assumption) ?_
      rotate_left 1
      · (intro w hSw; (try dsimp only at hSw); go_simp) <;> (with_reducible rfl)
      (try simp only [Act.put, List.setIfInBounds_toArray, List.set_cons_zero, List.set_cons_succ])
      refine tK (i := 5) (d := some 158) (v := ?_) rfl rfl (fun _ _ _ h => h) (Or.inl ⟨by rfl, ?_⟩) (by assumption) ?_
      rotate_left 1
      · (intro w hSw; (try dsimp only at hSw); go_simp) <;> (with_reducible rfl)
      (try simp only [Act.put, List.setIfInBounds_toArray, List.set_cons_zero, List.set_cons_succ])
      refine tK (i := 6) (d := some 159) (v := ?_) rfl rfl (fun _ _ _ h => h) (Or.inl ⟨by rfl, ?_⟩) (by assumption) ?_
      rotate_left 1
      · (intro w hSw; (try dsimp only at hSw); go_simp) <;> (with_reducible rfl)
      (try simp only [Act.put, List.setIfInBounds_toArray, List.set_cons_zero, List.set_cons_succ])
      refine tK (i := 7) (d := some 160) (v := ?_) rfl rfl (fun _ _ _ h => h) (Or.inl ⟨by rfl, ?_⟩) (by assumption) ?_
      rotate_left 1
      · (intro w hSw; (try dsimp only at hSw); go_simp) <;> (with_reducible rfl)
      (try simp only [Act.put, List.setIfInBounds_toArray, List.set_cons_zero, List.set_cons_succ])
      refine tK (i := 8) (d := some 161) (v := ?_) rfl rfl (fun _ _ _ h => h) (Or.inl ⟨by rfl, ?_⟩) (by assumption) ?_
      rotate_left 1
      · (intro w hSw; (try dsimp only at hSw); go_simp) <;> (with_reducible rfl)
      (try simp only [Act.put, List.setIfInBounds_toArray, List.set_cons_zero, List.set_cons_succ])
      refine tK (i := 9) (d := some 162) (v := ?_) rfl rfl (fun _ _ _ h => h) (Or.inl ⟨by rfl, ?_⟩) (by assumption) ?_
      rotate_left 1
      · (intro w hSw; (try dsimp only at hSw); go_simp) <;> (with_reducible rfl)
      (try simp only [Act.put, List.setIfInBounds_toArray, List.set_cons_zero, List.set_cons_succ])
      refine stepL2 (i := 0) (j := 10) (by kernel_rfl) rfl rfl (fun K' hK => ?_) (fun K' hK => ?_)
      · skip
        go_simp
        refine hK.out _ _ ?_ (fun hHeld1 => ?_)
        · simp [go_sem, *]
        clear hK K' hHeld0
        refine stepL2 (i := 3) (j := 10) (by kernel_rfl) rfl rfl (fun K' hK => ?_) (fun K' hK => ?_)
        · skip
          have hE : Owns encJ 6 (w.heap.size + 1 + 1 + 1) 87 ((z1.wd.drew.alloc (.cells #[] 87))) (some ⟨(z1.wd.drew).heap.size, 0, none⟩) 0 [] := (owns_emptyAt _ _ _ rfl (by simp; omega)).of Sx
          (try simp only [World.size_alloc, World.size_drew] at hE)
          refine step_append_row (by rfl) (.tmp 153) (.tmp 155) 26 (by rfl) encJ_len (by omega) encJ_one i0 _ 64 Tryz.underlying26 HI.out.1 HI.out.2.1 HI.out.2.2.1 HI.out.2.2.2 rfl (l := []) (c := 0) (base := w.heap.size + 1 + 1 + 1) rfl hE (m := L) (by rfl) (HJ.out.1.row.of Sx) (by unfold maxLen; first | omega | (simp; omega)) (by first | omega | (simp; omega)) (by first | omega | (simp; omega)) ?_
          intro A1 c1 w1 ho1 hgr1 hb1
          rw [List.nil_append] at ho1
          rw [List.length_nil, Nat.zero_add]
          have hs1 : SinceOf z1.wd w1 := SinceOf.grown Sx hgr1 (by intro q hq; simp [blockOf] at hq; (try simp); omega)
          have hz1' := hs1.size
          have nt1 : some (w.heap.size) ≠ blockOf (some (⟨(z1.wd.drew).heap.size, 0, none⟩ : Addr)) := fun e => by simp [blockOf] at e; omega
          have nt2 : some (w.heap.size + 1) ≠ blockOf (some (⟨(z1.wd.drew).heap.size, 0, none⟩ : Addr)) := fun e => by simp [blockOf] at e; omega
          have nt3 : some (qj) ≠ blockOf (some (⟨(z1.wd.drew).heap.size, 0, none⟩ : Addr)) := fun e => by simp [blockOf] at e; omega
          (try simp only [World.size_alloc, World.size_drew] at nt1 nt2 nt3)
          refine hK.out _ _ ⟨hgr1.cell hHeld1.1 nt1, hgr1.cell hHeld1.2.1 nt2, hgr1.cell hHeld1.2.2.1 nt3, hgr1.cell hHeld1.2.2.2.1 nt3, hgr1.cell hHeld1.2.2.2.2.1 nt3, hgr1.cell hHeld1.2.2.2.2.2.1 nt3, hgr1.cell hHeld1.2.2.2.2.2.2.1 nt3, hgr1.cell hHeld1.2.2.2.2.2.2.2 nt3⟩ (fun hHeld2 => ?_)
          clear hK K' hHeld1 nt1 nt2 nt3
          have hO1 : Nonempty (Old w1 (w.heap.size)) := ⟨⟨by omega⟩⟩
          have hO2' : Nonempty (Old w1 (w.heap.size + 1)) := ⟨⟨by omega⟩⟩
          have hO3' : Nonempty (Old w1 qj) := ⟨⟨by omega⟩⟩
          have hb1' : ∀ b, blockOf A1 = some b → z1.wd.heap.size ≤ b ∧ (b < w1.heap.size) := fun b hb => ⟨by
           rw [hb] at hb1
           rcases hb1 with h | h
           · simp [blockOf] at h; omega
           · simp at h; omega, (ho1.below b hb).2⟩
          refine stepL (i := 10) (by kernel_rfl) rfl (fun K' hK => ?_)
          go_simp
          refine hK.out _ _ ?_ (fun hHeld3 => ?_)
          · simp [go_sem, *]
          clear hK K' hHeld2
          refine stepL (i := 11) (by kernel_rfl) rfl (fun K' hK => ?_)
          have rJ : IsRow encJ 6 (w1.alloc (.cells #[.slice jA ms.length jc, .int .i64 du, .int .i64 cl, .int .i64 re, .int .i64 de, .int .i64 od] 87)) (some ⟨(w1).heap.size, 0, none⟩) 1 [(⟨jA, jc, ms, du, cl, re, de, od⟩ : JobR)] := rowJ_at w1 _ ⟨jA, jc, ms, du, cl, re, de, od⟩ 87 rfl
          have ho1' : Owns encJ 6 (w.heap.size + 1 + 1 + 1) 87 ((w1.alloc (.cells #[.slice jA ms.length jc, .int .i64 du, .int .i64 cl, .int .i64 re, .int .i64 de, .int .i64 od] 87))) A1 c1 L := ho1.of Sx
          refine step_append_row (by rfl) (.tmp 156) (.tmp 163) 26 (by rfl) encJ_len (by omega) encJ_one i0 _ 64 Tryz.underlying26 HI.out.1 HI.out.2.1 HI.out.2.2.1 HI.out.2.2.2 rfl (l := L) (A := A1) (c := c1) (base := w.heap.size + 1 + 1 + 1) (by kernel_rfl) ho1' (m := [⟨jA, jc, ms, du, cl, re, de, od⟩]) (by rfl) rJ (by unfold maxLen; first | omega | (simp; omega)) (by first | omega | (simp; omega)) (by first | omega | (simp; omega)) ?_
          intro A2 c2 w2 ho2 hgr2 hb2
          have hs2 : SinceOf z1.wd w2 := SinceOf.grown (hs1.trans Sx) hgr2 (by intro q hq; exact (hb1' q hq).1)
          have hz2' := hs2.size
          have nt1 : some (w.heap.size) ≠ blockOf A1 := fun e => by have := (hb1' _ e.symm).1; omega
          have nt2 : some (w.heap.size + 1) ≠ blockOf A1 := fun e => by have := (hb1' _ e.symm).1; omega
          have nt3 : some (qj) ≠ blockOf A1 := fun e => by have := (hb1' _ e.symm).1; omega
          refine hK.out _ _ ⟨hgr2.cell hHeld3.1 nt1, hgr2.cell hHeld3.2.1 nt2, hgr2.cell hHeld3.2.2.1 nt3, hgr2.cell hHeld3.2.2.2.1 nt3, hgr2.cell hHeld3.2.2.2.2.1 nt3, hgr2.cell hHeld3.2.2.2.2.2.1 nt3, hgr2.cell hHeld3.2.2.2.2.2.2.1 nt3, hgr2.cell hHeld3.2.2.2.2.2.2.2 nt3⟩ (fun hHeld4 => ?_)
          clear hK K' hHeld3 nt1 nt2 nt3
          have hO4 : Nonempty (Old w2 (w.heap.size)) := ⟨⟨by omega⟩⟩
          refine tK (i := 12) (d := some 165) (v := ?_) rfl rfl (fun _ _ _ h => h) (Or.inl ⟨by rfl, ?_⟩) (by assumption) ?_
          rotate_left 1
          · (intro w hSw; (try dsimp only at hSw); go_simp) <;> (with_reducible rfl)
          (try simp only [Act.put, List.setIfInBounds_toArray, List.set_cons_zero, List.set_cons_succ])
          refine lastL (i := 13) (by kernel_rfl) (by rfl) rfl (fun K' hK => ?_)
          obtain ⟨z2, rfl⟩ := hs2
          go_simp
          refine hK.out _ _ ?_
          clear hK K'
          refine doneL (by kernel_rfl) ?_ _
          go_wp2_with fail
          go_meet
          exact ⟨z2.wd, A2, c2, ho2, (show SinceOf (((w.alloc (.cells #[.slice sA cals.length sc, .slice sB R.length sd, .int .i64 most, .slice (some ⟨qj, oj, none⟩) L.length c, .slice gA bg.length gc, .slice pA pd.length pc, .slice dA dr.length dc] 52)).alloc (.cells #[.int .i64 2, .int .i64 0, .int .i64 0, .int .i64 0, .int .i64 i] 79)).alloc (.cells #[.slice none 0 0, .slice none 0 0, .int .i64 0, .slice none 0 0, .slice none 0 0, .slice none 0 0, .slice none 0 0] 52)) z1.wd from Sx).trans ⟨z2, rfl⟩, rfl⟩
        · skip
          go_simp
          refine hK.out _ _ ?_ (fun hHeld2 => ?_)
          · simp [go_sem, *]
          clear hK K' hHeld1
          refine stepL (i := 3) (by kernel_rfl) rfl (fun K' hK => ?_)
          have hE : Owns encJ 6 (w.heap.size + 1 + 1 + 1) 87 (((z1.wd.drew.alloc (.cells #[] 87)).alloc (.cells #[.slice jA ms.length jc, .int .i64 du, .int .i64 cl, .int .i64 re, .int .i64 de, .int .i64 od] 87))) (some ⟨(z1.wd.drew).heap.size, 0, none⟩) 0 [] := (owns_emptyAt _ _ _ rfl (by simp; omega)).of Sx
          (try simp only [World.size_alloc, World.size_drew] at hE)
          refine step_append_row (by rfl) (.tmp 153) (.tmp 155) 26 (by rfl) encJ_len (by omega) encJ_one i0 _ 64 Tryz.underlying26 HI.out.1 HI.out.2.1 HI.out.2.2.1 HI.out.2.2.2 rfl (l := []) (c := 0) (base := w.heap.size + 1 + 1 + 1) rfl hE (m := L) (by rfl) (HJ.out.1.row.of Sx) (by unfold maxLen; first | omega | (simp; omega)) (by first | omega | (simp; omega)) (by first | omega | (simp; omega)) ?_
          intro A1 c1 w1 ho1 hgr1 hb1
          rw [List.nil_append] at ho1
          rw [List.length_nil, Nat.zero_add]
          have hs1 : SinceOf z1.wd w1 := SinceOf.grown Sx hgr1 (by intro q hq; simp [blockOf] at hq; (try simp); omega)
          have hz1' := hs1.size
          have nt1 : some (w.heap.size) ≠ blockOf (some (⟨(z1.wd.drew).heap.size, 0, none⟩ : Addr)) := fun e => by simp [blockOf] at e; omega
          have nt2 : some (w.heap.size + 1) ≠ blockOf (some (⟨(z1.wd.drew).heap.size, 0, none⟩ : Addr)) := fun e => by simp [blockOf] at e; omega
          have nt3 : some (qj) ≠ blockOf (some (⟨(z1.wd.drew).heap.size, 0, none⟩ : Addr)) := fun e => by simp [blockOf] at e; omega
          (try simp only [World.size_alloc, World.size_drew] at nt1 nt2 nt3)
          refine hK.out _ _ ⟨hgr1.cell hHeld2.1 nt1, hgr1.cell hHeld2.2.1 nt2, hgr1.cell hHeld2.2.2.1 nt3, hgr1.cell hHeld2.2.2.2.1 nt3, hgr1.cell hHeld2.2.2.2.2.1 nt3, hgr1.cell hHeld2.2.2.2.2.2.1 nt3, hgr1.cell hHeld2.2.2.2.2.2.2.1 nt3, hgr1.cell hHeld2.2.2.2.2.2.2.2 nt3⟩ (fun hHeld3 => ?_)
          clear hK K' hHeld2 nt1 nt2 nt3
          have hO1 : Nonempty (Old w1 (w.heap.size)) := ⟨⟨by omega⟩⟩
          have hO2' : Nonempty (Old w1 (w.heap.size + 1)) := ⟨⟨by omega⟩⟩
          have hO3' : Nonempty (Old w1 qj) := ⟨⟨by omega⟩⟩
          have hb1' : ∀ b, blockOf A1 = some b → z1.wd.heap.size ≤ b ∧ (b < w1.heap.size) := fun b hb => ⟨by
           rw [hb] at hb1
           rcases hb1 with h | h
           · simp [blockOf] at h; omega
           · simp at h; omega, (ho1.below b hb).2⟩
          refine stepL (i := 11) (by kernel_rfl) rfl (fun K' hK => ?_)
          have rJ0 : IsRow encJ 6 ((z1.wd.drew.alloc (.cells #[] 87)).alloc (.cells #[.slice jA ms.length jc, .int .i64 du, .int .i64 cl, .int .i64 re, .int .i64 de, .int .i64 od] 87)) (some ⟨((z1.wd.drew.alloc (.cells #[] 87))).heap.size, 0, none⟩) 1 [(⟨jA, jc, ms, du, cl, re, de, od⟩ : JobR)] := rowJ_at _ _ ⟨jA, jc, ms, du, cl, re, de, od⟩ 87 rfl
          have rJ : IsRow encJ 6 w1 (some ⟨((z1.wd.drew.alloc (.cells #[] 87))).heap.size, 0, none⟩) 1 [(⟨jA, jc, ms, du, cl, re, de, od⟩ : JobR)] := by
           refine (rJ0.of (w' := ((z1.wd.drew.alloc (.cells #[] 87)).alloc (.cells #[.slice jA ms.length jc, .int .i64 du, .int .i64 cl, .int .i64 re, .int .i64 de, .int .i64 od] 87))) Sx).moved (fun b hb hlt => hgr1.block b hlt (fun e => by simp [blockOf] at hb e; omega)) hgr1.size
          (try simp only [World.size_alloc, World.size_drew] at rJ)
          have ho1' : Owns encJ 6 (w.heap.size + 1 + 1 + 1) 87 (w1) A1 c1 L := ho1.of Sx
          refine step_append_row (by rfl) (.tmp 156) (.tmp 163) 26 (by rfl) encJ_len (by omega) encJ_one i0 _ 64 Tryz.underlying26 HI.out.1 HI.out.2.1 HI.out.2.2.1 HI.out.2.2.2 rfl (l := L) (A := A1) (c := c1) (base := w.heap.size + 1 + 1 + 1) (by kernel_rfl) ho1' (m := [⟨jA, jc, ms, du, cl, re, de, od⟩]) (by rfl) rJ (by unfold maxLen; first | omega | (simp; omega)) (by first | omega | (simp; omega)) (by first | omega | (simp; omega)) ?_
          intro A2 c2 w2 ho2 hgr2 hb2
          have hs2 : SinceOf z1.wd w2 := SinceOf.grown (hs1.trans Sx) hgr2 (by intro q hq; exact (hb1' q hq).1)
          have hz2' := hs2.size
          have nt1 : some (w.heap.size) ≠ blockOf A1 := fun e => by have := (hb1' _ e.symm).1; omega
          have nt2 : some (w.heap.size + 1) ≠ blockOf A1 := fun e => by have := (hb1' _ e.symm).1; omega
          have nt3 : some (qj) ≠ blockOf A1 := fun e => by have := (hb1' _ e.symm).1; omega
          refine hK.out _ _ ⟨hgr2.cell hHeld3.1 nt1, hgr2.cell hHeld3.2.1 nt2, hgr2.cell hHeld3.2.2.1 nt3, hgr2.cell hHeld3.2.2.2.1 nt3, hgr2.cell hHeld3.2.2.2.2.1 nt3, hgr2.cell hHeld3.2.2.2.2.2.1 nt3, hgr2.cell hHeld3.2.2.2.2.2.2.1 nt3, hgr2.cell hHeld3.2.2.2.2.2.2.2 nt3⟩ (fun hHeld4 => ?_)
          clear hK K' hHeld3 nt1 nt2 nt3
          have hO4 : Nonempty (Old w2 (w.heap.size)) := ⟨⟨by omega⟩⟩
          refine tK (i := 12) (d := some 165) (v := ?_) rfl rfl (fun _ _ _ h => h) (Or.inl ⟨by rfl, ?_⟩) (by assumption) ?_
          rotate_left 1
          · (intro w hSw; (try dsimp only at hSw); go_simp) <;> (with_reducible rfl)
          (try simp only [Act.put, List.setIfInBounds_toArray, List.set_cons_zero, List.set_cons_succ])
          refine lastL (i := 13) (by kernel_rfl) (by rfl) rfl (fun K' hK => ?_)
          obtain ⟨z2, rfl⟩ := hs2
          go_simp
          refine hK.out _ _ ?_
          clear hK K'
          refine doneL (by kernel_rfl) ?_ _
          go_wp2_with fail
          go_meet
          exact ⟨z2.wd, A2, c2, ho2, (show SinceOf (((w.alloc (.cells #[.slice sA cals.length sc, .slice sB R.length sd, .int .i64 most, .slice (some ⟨qj, oj, none⟩) L.length c, .slice gA bg.length gc, .slice pA pd.length pc, .slice dA dr.length dc] 52)).alloc (.cells #[.int .i64 2, .int .i64 0, .int .i64 0, .int .i64 0, .int .i64 i] 79)).alloc (.cells #[.slice none 0 0, .slice none 0 0, .int .i64 0, .slice none 0 0, .slice none 0 0, .slice none 0 0, .slice none 0 0] 52)) z1.wd from Sx).trans ⟨z2, rfl⟩, rfl⟩
      · skip
        go_simp
        refine hK.out _ _ ?_ (fun hHeld1 => ?_)
        · simp [go_sem, *]
        clear hK K' hHeld0
        refine stepL (i := 0) (by kernel_rfl) rfl (fun K' hK => ?_)
        go_simp
        refine hK.out _ _ ?_ (fun hHeld2 => ?_)
        · simp [go_sem, *]
        clear hK K' hHeld1
        refine stepL (i := 3) (by kernel_rfl) rfl (fun K' hK => ?_)
        have hE : Owns encJ 6 (w.heap.size + 1 + 1 + 1) 87 (((z1.wd.drew.alloc (.cells #[.slice jA ms.length jc, .int .i64 du, .int .i64 cl, .int .i64 re, .int .i64 de, .int .i64 od] 87)).alloc (.cells #[] 87))) (some ⟨((z1.wd.drew.alloc (.cells #[.slice jA ms.length jc, .int .i64 du, .int .i64 cl, .int .i64 re, .int .i64 de, .int .i64 od] 87))).heap.size, 0, none⟩) 0 [] := (owns_emptyAt _ _ _ rfl (by simp; omega)).of Sx
        (try simp only [World.size_alloc, World.size_drew] at hE)
        refine step_append_row (by rfl) (.tmp 153) (.tmp 155) 26 (by rfl) encJ_len (by omega) encJ_one i0 _ 64 Tryz.underlying26 HI.out.1 HI.out.2.1 HI.out.2.2.1 HI.out.2.2.2 rfl (l := []) (c := 0) (base := w.heap.size + 1 + 1 + 1) rfl hE (m := L) (by rfl) (HJ.out.1.row.of Sx) (by unfold maxLen; first | omega | (simp; omega)) (by first | omega | (simp; omega)) (by first | omega | (simp; omega)) ?_
        intro A1 c1 w1 ho1 hgr1 hb1
        rw [List.nil_append] at ho1
        rw [List.length_nil, Nat.zero_add]
        have hs1 : SinceOf z1.wd w1 := SinceOf.grown Sx hgr1 (by intro q hq; simp [blockOf] at hq; (try simp); omega)
        have hz1' := hs1.size
        have nt1 : some (w.heap.size) ≠ blockOf (some (⟨((z1.wd.drew.alloc (.cells #[.slice jA ms.length jc, .int .i64 du, .int .i64 cl, .int .i64 re, .int .i64 de, .int .i64 od] 87))).heap.size, 0, none⟩ : Addr)) := fun e => by simp [blockOf] at e; omega
        have nt2 : some (w.heap.size + 1) ≠ blockOf (some (⟨((z1.wd.drew.alloc (.cells #[.slice jA ms.length jc, .int .i64 du, .int .i64 cl, .int .i64 re, .int .i64 de, .int .i64 od] 87))).heap.size, 0, none⟩ : Addr)) := fun e => by simp [blockOf] at e; omega
        have nt3 : some (qj) ≠ blockOf (some (⟨((z1.wd.drew.alloc (.cells #[.slice jA ms.length jc, .int .i64 du, .int .i64 cl, .int .i64 re, .int .i64 de, .int .i64 od] 87))).heap.size, 0, none⟩ : Addr)) := fun e => by simp [blockOf] at e; omega
        (try simp only [World.size_alloc, World.size_drew] at nt1 nt2 nt3)
        refine hK.out _ _ ⟨hgr1.cell hHeld2.1 nt1, hgr1.cell hHeld2.2.1 nt2, hgr1.cell hHeld2.2.2.1 nt3, hgr1.cell hHeld2.2.2.2.1 nt3, hgr1.cell hHeld2.2.2.2.2.1 nt3, hgr1.cell hHeld2.2.2.2.2.2.1 nt3, hgr1.cell hHeld2.2.2.2.2.2.2.1 nt3, hgr1.cell hHeld2.2.2.2.2.2.2.2 nt3⟩ (fun hHeld3 => ?_)
        clear hK K' hHeld2 nt1 nt2 nt3
        have hO1 : Nonempty (Old w1 (w.heap.size)) := ⟨⟨by omega⟩⟩
        have hO2' : Nonempty (Old w1 (w.heap.size + 1)) := ⟨⟨by omega⟩⟩
        have hO3' : Nonempty (Old w1 qj) := ⟨⟨by omega⟩⟩
        have hb1' : ∀ b, blockOf A1 = some b → z1.wd.heap.size ≤ b ∧ (b < w1.heap.size) := fun b hb => ⟨by
         rw [hb] at hb1
         rcases hb1 with h | h
         · simp [blockOf] at h; omega
         · simp at h; omega, (ho1.below b hb).2⟩
        refine stepL (i := 11) (by kernel_rfl) rfl (fun K' hK => ?_)
        have rJ0 : IsRow encJ 6 (z1.wd.drew.alloc (.cells #[.slice jA ms.length jc, .int .i64 du, .int .i64 cl, .int .i64 re, .int .i64 de, .int .i64 od] 87)) (some ⟨(z1.wd.drew).heap.size, 0, none⟩) 1 [(⟨jA, jc, ms, du, cl, re, de, od⟩ : JobR)] := rowJ_at _ _ ⟨jA, jc, ms, du, cl, re, de, od⟩ 87 rfl
        have rJ : IsRow encJ 6 w1 (some ⟨(z1.wd.drew).heap.size, 0, none⟩) 1 [(⟨jA, jc, ms, du, cl, re, de, od⟩ : JobR)] := by
         refine (rJ0.of (w' := ((z1.wd.drew.alloc (.cells #[.slice jA ms.length jc, .int .i64 du, .int .i64 cl, .int .i64 re, .int .i64 de, .int .i64 od] 87)).alloc (.cells #[] 87))) Sx).moved (fun b hb hlt => hgr1.block b hlt (fun e => by simp [blockOf] at hb e; omega)) hgr1.size
        (try simp only [World.size_alloc, World.size_drew] at rJ)
        have ho1' : Owns encJ 6 (w.heap.size + 1 + 1 + 1) 87 (w1) A1 c1 L := ho1.of Sx
        refine step_append_row (by rfl) (.tmp 156) (.tmp 163) 26 (by rfl) encJ_len (by omega) encJ_one i0 _ 64 Tryz.underlying26 HI.out.1 HI.out.2.1 HI.out.2.2.1 HI.out.2.2.2 rfl (l := L) (A := A1) (c := c1) (base := w.heap.size + 1 + 1 + 1) (by kernel_rfl) ho1' (m := [⟨jA, jc, ms, du, cl, re, de, od⟩]) (by rfl) rJ (by unfold maxLen; first | omega | (simp; omega)) (by first | omega | (simp; omega)) (by first | omega | (simp; omega)) ?_
        intro A2 c2 w2 ho2 hgr2 hb2
        have hs2 : SinceOf z1.wd w2 := SinceOf.grown (hs1.trans Sx) hgr2 (by intro q hq; exact (hb1' q hq).1)
        have hz2' := hs2.size
        have nt1 : some (w.heap.size) ≠ blockOf A1 := fun e => by have := (hb1' _ e.symm).1; omega
        have nt2 : some (w.heap.size + 1) ≠ blockOf A1 := fun e => by have := (hb1' _ e.symm).1; omega
        have nt3 : some (qj) ≠ blockOf A1 := fun e => by have := (hb1' _ e.symm).1; omega
        refine hK.out _ _ ⟨hgr2.cell hHeld3.1 nt1, hgr2.cell hHeld3.2.1 nt2, hgr2.cell hHeld3.2.2.1 nt3, hgr2.cell hHeld3.2.2.2.1 nt3, hgr2.cell hHeld3.2.2.2.2.1 nt3, hgr2.cell hHeld3.2.2.2.2.2.1 nt3, hgr2.cell hHeld3.2.2.2.2.2.2.1 nt3, hgr2.cell hHeld3.2.2.2.2.2.2.2 nt3⟩ (fun hHeld4 => ?_)
        clear hK K' hHeld3 nt1 nt2 nt3
        have hO4 : Nonempty (Old w2 (w.heap.size)) := ⟨⟨by omega⟩⟩
        refine tK (i := 12) (d := some 165) (v := ?_) rfl rfl (fun _ _ _ h => h) (Or.inl ⟨by rfl, ?_⟩) (by assumption) ?_
        rotate_left 1
        · (intro w hSw; (try dsimp only at hSw); go_simp) <;> (with_reducible rfl)
        (try simp only [Act.put, List.setIfInBounds_toArray, List.set_cons_zero, List.set_cons_succ])
        refine lastL (i := 13) (by kernel_rfl) (by rfl) rfl (fun K' hK => ?_)
        obtain ⟨z2, rfl⟩ := hs2
        go_simp
        refine hK.out _ _ ?_
        clear hK K'
        refine doneL (by kernel_rfl) ?_ _
        go_wp2_with fail
        go_meet
        exact ⟨z2.wd, A2, c2, ho2, (show SinceOf (((w.alloc (.cells #[.slice sA cals.length sc, .slice sB R.length sd, .int .i64 most, .slice (some ⟨qj, oj, none⟩) L.length c, .slice gA bg.length gc, .slice pA pd.length pc, .slice dA dr.length dc] 52)).alloc (.cells #[.int .i64 2, .int .i64 0, .int .i64 0, .int .i64 0, .int .i64 i] 79)).alloc (.cells #[.slice none 0 0, .slice none 0 0, .int .i64 0, .slice none 0 0, .slice none 0 0, .slice none 0 0, .slice none 0 0] 52)) z1.wd from Sx).trans ⟨z2, rfl⟩, rfl⟩
     case rest =>
      obtain ⟨_, A2, c2, ho2, ⟨z2, rfl⟩, rfl⟩ := hcut
      have hz2 := z2.size
      simp at hz2
      have HO := Lib.hid ho2
      clear ho2
      go_wp2_with (first
       | (at_builtin
          refine wpList_append_row rfl (.tmp 166) (.tmp 168) 40 rfl encB_len (by omega) encB_one1 b0i _ 1 Tryz.underlying40 BI.out.1 BI.out.2.1 BI.out.2.2.1 BI.out.2.2.2 rfl (l := []) (A := some ⟨z2.wd.heap.size, 0, none⟩) (c := 0) (base := w.heap.size + 1 + 1 + 1) rfl (owns_emptyAt _ _ _ (by simp) (by omega)) (m := dr) (by rfl) (HJ.out.2.2.of Sx) (by unfold maxLen; first | omega | (simp; omega)) (by first | omega | (simp; omega)) (by first | omega | (simp; omega)) ?_
          intro D3 d3 w3 hown3 hgr3 hbl3
          rw [List.nil_append] at hown3
          rw [List.length_nil, Nat.zero_add]
          have hs3 : SinceOf (z2.wd.setCell ⟨w.heap.size, 3, none⟩ (.slice A2 (L.length + 1) c2)) w3 := SinceOf.grown Sx hgr3 (fun q5 hq5 => by simp [blockOf] at hq5; (try simp); omega)
          have hb3 : ∀ b, blockOf D3 = some b → z2.wd.heap.size ≤ b := fun b hb => by
           rw [hb] at hbl3
           rcases hbl3 with h | h
           · simp [blockOf] at h; omega
           · simp at h; omega
          obtain ⟨z3, rfl⟩ := hs3
          have hz3 := z3.size
          (try simp at hz3))
       | (at_builtin
          refine wpList_append_row rfl (.tmp 169) (.tmp 170) 40 rfl encB_len (by omega) encB_one1 b0i _ 1 Tryz.underlying40 BI.out.1 BI.out.2.1 BI.out.2.2.1 BI.out.2.2.2 rfl (l := dr) (A := D3) (c := d3) (base := w.heap.size + 1 + 1 + 1) rfl (hown3.of Sx) (m := [false]) (by rfl) (rowB_lit z3.wd _ rfl) (by unfold maxLen; first | omega | (simp; omega)) (by first | omega | (simp; omega)) (by first | omega | (simp; omega)) ?_
          intro D4 d4 w4 hown4 hgr4 hbl4
          have hs4 : SinceOf (z2.wd.setCell ⟨w.heap.size, 3, none⟩ (.slice A2 (L.length + 1) c2)) w4 := SinceOf.grown Sx hgr4 (fun q5 hq5 => by have := hb3 q5 hq5; (try simp); omega)
          obtain ⟨z4, rfl⟩ := hs4
          have HB4 := Lib.hid hown4))
      go_returns
      have key : ∀ WF : World, (∀ b, b ≠ w.heap.size → b ≠ w.heap.size + 1 + 1 → WF.heap[b]? = z4.wd.heap[b]?) → SinceOf w WF →
       EvOut w WF b0 ⟨⟨sA, sc, cals, sB, sd, R, most⟩, some ⟨qj, oj, none⟩, c, L, gA, gc, bg, pA, pc, pd, dA, dc, dr⟩ ⟨⟨sA, sc, cals, sB, sd, R, most⟩, A2, c2, L ++ [⟨jA, jc, ms, du, cl, re, de, od⟩], gA, gc, bg, pA, pc, pd, D4, d4, dr ++ [false]⟩ := by
       intro WF hWF hsW
       have old := HW.out.1.of hsW
       have hjo : Owns encJ 6 (w.heap.size + 1 + 1 + 1) 87 WF A2 c2 (L ++ [⟨jA, jc, ms, du, cl, re, de, od⟩]) := HO.out.sameBlock (fun b hb => by
        have h1 := HO.out.below b hb
        rw [hWF b (by omega) (by omega), z4.below.block b (by simp; omega), setHeap_ne (by omega)])
       have hdo : IsRow encB 1 WF D4 d4 (dr ++ [false]) := (HB4.out.sameBlock (fun b hb => by
        have h1 := (HB4.out.below b hb).1
        exact hWF b (by omega) (by omega))).isRow encB_len
       have mk : ∀ W : World, (∀ j ∈ L, IsInts W j.A j.c j.ms ∧ j.ms.length < 4611686018427387904) → ∀ j ∈ L ++ [⟨jA, jc, ms, du, cl, re, de, od⟩], IsInts W j.A j.c j.ms ∧ j.ms.length < 4611686018427387904 := by
        intro W h j hj
        rcases List.mem_append.1 hj with hj | hj
        · exact h j hj
        · rw [List.mem_singleton] at hj
          subst hj
          have h1 := h _ (List.getElem_mem hi)
          rw [← HRES.out.2] at h1
          exact h1
       refine ⟨⟨old.shop, ⟨hjo.isRow encJ_len, mk WF old.jobs.all, by simp; omega⟩, old.bg, old.pd, hdo⟩, fun o9 ho9 h W hW hWs => ?_, hjo.base_le (by omega), ⟨rfl, rfl, rfl, rfl, rfl, rfl⟩, ⟨rfl, by simp, by simp; omega⟩, hsW⟩
       have hsz2 := hsW.size
       have hAb : ∀ b, blockOf A2 = some b → w.heap.size + 1 + 1 + 1 ≤ b := fun b hb => (hjo.below b hb).1
       obtain ⟨o1, o2, o3, o4, o5⟩ := h W (fun b hb hn => (hW b (by omega) (fun hS => by
        rcases hS with hS | hS
        · exact hn (.inl hS)
        · have := hAb b hS; omega)).trans (hsW.below.block b hb)) (by omega)
       refine ⟨o1, mk W o2, o3, o4, hdo.moved (fun b hb hlt => hW b hlt (fun hS => ?_)) hWs⟩
       have hDb := (HB4.out.below b hb).1
       rcases hS with hS | hS
       · have := ho9 b hS
         omega
       · obtain ⟨cur1, hc1⟩ := hjo.typed b hS
         obtain ⟨cur2, hc2⟩ := HB4.out.typed b hb
         rw [hWF b (by omega) (by omega), hc2] at hc1
         simp at hc1
      refine ⟨⟨⟨sA, sc, cals, sB, sd, R, most⟩, A2, c2, L ++ [⟨jA, jc, ms, du, cl, re, de, od⟩], gA, gc, bg, pA, pc, pd, D4, d4, dr ++ [false]⟩, ?_, ?_, key _ ?_ ?_⟩
      · rw [HRES.out.1]
        simp only [stateV, List.length_append, List.length_singleton]
      · rw [HRES.out.1]
        simp [plSt, erL]
      · intro b h1 h2
        (repeat (refine (setHeap_ne (by omega)).trans ?_))
        rfl
      · (repeat (with_reducible first | exact Sr _ | assumption | refine Sa ?_ _ | refine Sd ?_ | refine Sn ?_ _ | refine Se ?_ _ | refine Sf ?_ _ | refine Sc ?_ (by first | exact Nat.le_refl _ | (simp; done) | omega | (simp; omega)) _))
end Go.Proofs.YtpaojgfmffkodaaGreat
/- Layer 54: the reference's event. -/
namespace Go.Proofs.YtpaojgfmffkodaaGreat
set_option linter.unusedVariables false
set_option linter.unusedSimpArgs false
open Go.RowKit Go.Sort
attribute [local go_sem ↓] Go.wp_at_zero Go.wp_at_succ
set_option maxRecDepth 100000 in
set_option maxHeartbeats 16000000 in
theorem refEvent54_any (b0 : Nat) (x : StR) (B : Option Addr) (d : Nat) (plan : List SlotR) (now : Int) (bgP pdP : List SlotR) (hbgP : bgP = plan.filter fun y => decide (y.start < now)) (v : EvR) (w : World) (hx : IsState w x) (hj : Owns encJ 6 b0 87 w x.A x.c x.L) (hb : b0 ≤ w.heap.size) (hpl : IsSlots w B d plan) (hpn : plan.length < 4611686018427387904) (hn : x.s.cals.length ≤ 1000000) (hL : x.L.length ≤ 1000000) (hdl : x.dr.length = x.L.length) :
 Calls Tryz.prog 43 #[stateV x, .slice B plan.length d, .int .i64 now, evV v] w fun e w' => ∃ x' : StR, e = .returned (.tuple #[stateV x', .int .i64 (stepV (plSt x bgP pdP) now v).1]) ∧ plSt x' bgP pdP = (stepV (plSt x bgP pdP) now v).2 ∧ EvOut w w' b0 x x' := by
 have hLl : (plSt x bgP pdP).L.length = x.L.length := erL_length x.L
 have hnl : (plSt x bgP pdP).s.cals.length = x.s.cals.length := List.length_map _
 have HW := Lib.hid (And.intro hx hj)
 have HDL := Lib.hid hdl
 clear hdl
 have BG := fun W (hW : SinceOf w W) => refBegun54_any B d plan now v.job W (hpl.of hW) hpn
 rw [begP_any, ← hbgP] at BG
 obtain ⟨res, hres⟩ : ∃ r, r = stepV (plSt x bgP pdP) now v := ⟨_, rfl⟩
 rw [← hres]
 unfold stepV at hres
 by_cases e1 : v.kind = 1
 · rw [if_pos e1] at hres
   unfold shutV at hres
   rw [hnl] at hres
   obtain ⟨vk, vm, vf, vt, vj⟩ := v
   simp only at e1 hres
   subst e1
   by_cases e2 : vj = 0
   · subst e2
     rw [if_pos rfl] at hres
     by_cases e3 : vm < 0 ∨ (x.s.cals.length : Int) ≤ vm
     · rw [if_pos e3] at hres
       subst hres
       obtain ⟨⟨sA, sc, cals, sB, sd, R, most⟩, A, c, L, gA, gc, bg, pA, pc, pd, dA, dc, dr⟩ := x
       simp only at hn hL e3
       clear BG hx hj hLl hnl hbgP
       rcases (show vm < 0 ∨ (¬ vm < 0 ∧ (cals.length : Int) ≤ vm) by omega) with e4 | ⟨e4, e5⟩
       all_goals
        clear e3
        go_enter Tryz.func43, Tryz.ntmps43
        go_wp2_with fail
        go_returns
        exact ⟨_, rfl, rfl, EvOut.same HW.out.1 HW.out.2 Sx⟩
     · rw [if_neg e3] at hres
       by_cases e4 : vf < now ∨ vt < vf ∨ 1000000 < vt
       · rw [if_pos e4] at hres
         subst hres
         obtain ⟨⟨sA, sc, cals, sB, sd, R, most⟩, A, c, L, gA, gc, bg, pA, pc, pd, dA, dc, dr⟩ := x
         simp only at hn hL e3
         have e5 : ¬ vm < 0 := by omega
         have e6 : ¬ (cals.length : Int) ≤ vm := by omega
         clear BG hx hj hLl hnl hbgP
         rcases (show vf < now ∨ (¬ vf < now ∧ vt < vf) ∨ (¬ vf < now ∧ ¬ vt < vf ∧ 1000000 < vt) by omega) with e7 | ⟨e7, e8⟩ | ⟨e7, e8, e9⟩
         all_goals
          clear e3 e4
          go_enter Tryz.func43, Tryz.ntmps43
          go_wp2_with fail
          go_returns
          exact ⟨_, rfl, rfl, EvOut.same HW.out.1 HW.out.2 Sx⟩
       · rw [if_neg e4] at hres
         obtain ⟨i, rfl⟩ : ∃ i : Nat, vm = i := ⟨vm.toNat, by omega⟩
         exact refEvClose b0 x B d plan now bgP pdP i vf vt w res hx hj hb hn (by omega) e4 hres
   · rw [if_neg e2] at hres
     subst hres
     have f2 : (vj != 0) = true := by simpa using e2
     obtain ⟨⟨sA, sc, cals, sB, sd, R, most⟩, A, c, L, gA, gc, bg, pA, pc, pd, dA, dc, dr⟩ := x
     simp only at hn hL
     clear BG hx hj hLl hnl e2 hbgP
     go_enter Tryz.func43, Tryz.ntmps43
     go_wp2_with fail
     go_returns
     exact ⟨_, rfl, rfl, EvOut.same HW.out.1 HW.out.2 Sx⟩
 · rw [if_neg e1] at hres
   by_cases e2 : v.kind ≠ 2 ∧ v.kind ≠ 3
   · rw [if_pos e2] at hres
     subst hres
     obtain ⟨vk, vm, vf, vt, vj⟩ := v
     simp only at e1 e2
     have f1 : (vk == 1) = false := by simpa using e1
     have f2 : (vk == 2) = false := by simpa using e2.1
     have f3 : (vk == 3) = false := by simpa using e2.2
     obtain ⟨⟨sA, sc, cals, sB, sd, R, most⟩, A, c, L, gA, gc, bg, pA, pc, pd, dA, dc, dr⟩ := x
     simp only at hn hL
     clear BG hx hj hLl hnl e1 e2 hbgP
     go_enter Tryz.func43, Tryz.ntmps43
     go_wp2_with fail
     go_returns
     exact ⟨_, rfl, rfl, EvOut.same HW.out.1 HW.out.2 Sx⟩
   · rw [if_neg e2] at hres
     unfold aboutE at hres
     rw [hLl] at hres
     obtain ⟨vk, vm, vf, vt, vj⟩ := v
     simp only at e1 e2 hres BG
     by_cases e3 : vm ≠ 0 ∨ vf ≠ 0 ∨ vt ≠ 0
     · rw [if_pos e3, if_pos (by decide)] at hres
       subst hres
       obtain ⟨⟨sA, sc, cals, sB, sd, R, most⟩, A, c, L, gA, gc, bg, pA, pc, pd, dA, dc, dr⟩ := x
       simp only at hn hL
       clear BG hx hj hLl hnl hbgP
       rcases (show vk = 2 ∨ vk = 3 by omega) with rfl | rfl
       all_goals
        clear e1 e2
        rcases (show vm ≠ 0 ∨ (vm = 0 ∧ vf ≠ 0) ∨ (vm = 0 ∧ vf = 0 ∧ vt ≠ 0) by omega) with e1 | ⟨rfl, e1⟩ | ⟨rfl, rfl, e1⟩
        · have e2 : (vm != 0) = true := by simpa using e1
          clear e3 e1
          go_enter Tryz.func43, Tryz.ntmps43
          go_wp2_with fail
          go_returns
          exact ⟨_, rfl, rfl, EvOut.same HW.out.1 HW.out.2 Sx⟩
        · have e2 : (vf != 0) = true := by simpa using e1
          clear e3 e1
          go_enter Tryz.func43, Tryz.ntmps43
          go_wp2_with fail
          go_returns
          exact ⟨_, rfl, rfl, EvOut.same HW.out.1 HW.out.2 Sx⟩
        · have e2 : (vt != 0) = true := by simpa using e1
          clear e3 e1
          go_enter Tryz.func43, Tryz.ntmps43
          go_wp2_with fail
          go_returns
          exact ⟨_, rfl, rfl, EvOut.same HW.out.1 HW.out.2 Sx⟩
     · rw [if_neg e3] at hres
       obtain ⟨rfl, rfl, rfl⟩ : vm = 0 ∧ vf = 0 ∧ vt = 0 := by omega
       clear e3
       by_cases e4 : vj < 0 ∨ (x.L.length : Int) ≤ vj
       · rw [if_pos e4, if_pos (by decide)] at hres
         subst hres
         obtain ⟨⟨sA, sc, cals, sB, sd, R, most⟩, A, c, L, gA, gc, bg, pA, pc, pd, dA, dc, dr⟩ := x
         simp only at hn hL e4
         clear BG hx hj hLl hnl hbgP
         rcases (show vk = 2 ∨ vk = 3 by omega) with rfl | rfl
         all_goals
          clear e1 e2
          rcases (show vj < 0 ∨ (¬ vj < 0 ∧ (L.length : Int) ≤ vj) by omega) with e5 | ⟨e5, e6⟩
          all_goals
           clear e4
           go_enter Tryz.func43, Tryz.ntmps43
           go_wp2_with fail
           go_returns
           exact ⟨_, rfl, rfl, EvOut.same HW.out.1 HW.out.2 Sx⟩
       · rw [if_neg e4, if_neg (by decide)] at hres
         obtain ⟨i, rfl⟩ : ∃ i : Nat, vj = i := ⟨vj.toNat, by omega⟩
         have hi : i < x.L.length := by omega
         by_cases e7 : vk = 3
         · rw [if_pos e7] at hres
           subst e7
           exact refEvDrop b0 x B d plan now bgP pdP i w res hx hj hb hL HDL.out BG (by omega) hres
         · rw [if_neg e7] at hres
           obtain rfl : vk = 2 := by omega
           exact refEvAgain b0 x B d plan now bgP pdP i w res hx hj hb hL HDL.out BG (by omega) hres
end Go.Proofs.YtpaojgfmffkodaaGreat
