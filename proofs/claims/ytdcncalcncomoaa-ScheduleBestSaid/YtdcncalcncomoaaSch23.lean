/- Layer 52: what 'on' computes. -/
import Derived.Test.YtdcncalcncomoaaSch20
import Derived.Test.YtdcncalcncomoaaHeap4

namespace Go.Proofs.Ytdcncalcncomoaa
open Go.RowKit Go.Sort
set_option linter.unusedVariables false

def insI (x : Int) : List Int → List Int
  | [] => [x]
  | y :: r => if x ≤ y then x :: y :: r else y :: insI x r
def sortI : List Int → List Int
  | [] => []
  | x :: r => insI x (sortI r)
theorem insI_perm (x : Int) : ∀ l, (insI x l).Perm (x :: l)
  | [] => List.Perm.refl _
  | y :: r => by
    unfold insI
    split
    · exact List.Perm.refl _
    · exact ((insI_perm x r).cons y).trans (List.Perm.swap x y r)
theorem sortI_perm : ∀ l, (sortI l).Perm l
  | [] => List.Perm.refl _
  | x :: r => (insI_perm x (sortI r)).trans ((sortI_perm r).cons x)
theorem insI_sorted (x : Int) : ∀ l, l.Pairwise (· ≤ ·) → (insI x l).Pairwise (· ≤ ·)
  | [], _ => by simp [insI]
  | y :: r, h => by
    unfold insI
    obtain ⟨h1, h2⟩ := List.pairwise_cons.1 h
    split
    · rename_i hxy
      refine List.pairwise_cons.2 ⟨fun z hz => ?_, h⟩
      rcases List.mem_cons.1 hz with rfl | hz
      · exact hxy
      · exact Int.le_trans hxy (h1 z hz)
    · rename_i hxy
      refine List.pairwise_cons.2 ⟨fun z hz => ?_, insI_sorted x r h2⟩
      rcases List.mem_cons.1 ((insI_perm x r).subset hz) with rfl | hz
      · omega
      · exact h1 z hz
theorem sortI_sorted : ∀ l, (sortI l).Pairwise (· ≤ ·)
  | [] => by simp [sortI]
  | x :: r => insI_sorted x _ (sortI_sorted r)
theorem drains_sort {L : List (Int × Int)} {l : List Int} (h : (L.map (·.1)).Perm l) : Drains L (sortI l) := ⟨sortI_sorted l, (sortI_perm l).trans h.symm⟩

def nextAt (s : ShopR) (m t : Int) : Int × Int := nextV (calAt s m).P (calAt s m).S (calAt s m).D t
/-- The first of the times at which the job fits; a time without an open time, or an end, ends the search. -/
def firstFit (s : ShopR) (L : List JobR) (l : List SlotR) (jb m : Int) : List Int → Option SlotR
  | [] => none
  | t :: r =>
    if (nextAt s m t).2 = 0 then
      if (finishAt s m (nextAt s m t).1 (jobAt L jb).dur).2 = 0 then
        if (validV s L (l ++ [⟨jb, m, (nextAt s m t).1, (finishAt s m (nextAt s m t).1 (jobAt L jb).dur).1⟩])).2 = 0 then some ⟨jb, m, (nextAt s m t).1, (finishAt s m (nextAt s m t).1 (jobAt L jb).dur).1⟩
        else firstFit s L l jb m r
      else none
    else none
def endsOf (b : Int) (l : List SlotR) : List Int := (l.filter fun y => decide (b < y.stop)).map (·.stop)
def onV (s : ShopR) (L : List JobR) (l : List SlotR) (jb m : Int) : Option SlotR :=
  match beginV s L jb m (jobAt L jb).rel l with
  | none => none
  | some b => firstFit s L l jb m (sortI (b :: endsOf b l))
def slotOpt (o : Option SlotR) : Value := match o with
  | some x => .tuple #[slotV x, .bool true]
  | none => .tuple #[slotV ⟨0, 0, 0, 0⟩, .bool false]
end Go.Proofs.Ytdcncalcncomoaa
/- Layer 52: the walk of 'on'. -/
namespace Go.Proofs.Ytdcncalcncomoaa
open Go.RowKit Go.Sort Go.Shelf
set_option linter.unusedVariables false
attribute [local go_sem ↓] Go.wp_at_zero Go.wp_at_succ
attribute [local go_sem] Oper.semAt_some

/-- What 'on' knows when its loop is left by a jump. -/
def OnIx (res : Option SlotR) (w wl : World) (ga gb : Nat) : Code → List Int → World → Prop
  | .ret, _, W => ∃ x : SlotR, res = some x ∧ Below w.heap.size w W ∧ W.cell? ⟨ga, 0, none⟩ = some (.int .i64 x.job) ∧ W.cell? ⟨ga, 1, none⟩ = some (.int .i64 x.mach) ∧ W.cell? ⟨ga, 2, none⟩ = some (.int .i64 x.start) ∧ W.cell? ⟨ga, 3, none⟩ = some (.int .i64 x.stop) ∧ W.cell? ⟨gb, 0, none⟩ = some (.bool true)
  | .exit id, _, W => id = 2 ∧ res = none ∧ SinceOf wl W
  | _, _, _ => False
theorem onIx_local {res : Option SlotR} {w wl : World} {ga gb : Nat} (hw : w.heap.size ≤ wl.heap.size) (ha : ga < wl.heap.size) (hb : gb < wl.heap.size) (c : Code) : Local wl.heap.size (OnIx res w wl ga gb c) := by
  intro pre W W' h hbel
  cases c <;> try exact h
  case ret =>
    obtain ⟨x, h1, h2, h3, h4, h5, h6, h7⟩ := h
    exact ⟨x, h1, h2.trans (hbel.mono hw), (hbel.cell (p := ⟨ga, 0, none⟩) ha).trans h3, (hbel.cell (p := ⟨ga, 1, none⟩) ha).trans h4, (hbel.cell (p := ⟨ga, 2, none⟩) ha).trans h5, (hbel.cell (p := ⟨ga, 3, none⟩) ha).trans h6, (hbel.cell (p := ⟨gb, 0, none⟩) hb).trans h7⟩
  case exit id =>
    obtain ⟨h1, h2, h3⟩ := h
    exact ⟨h1, h2, SinceOf.of_below (h3.below.trans hbel)⟩
theorem endsOf_snoc (b : Int) {l : List SlotR} {k : Nat} (h : k < l.length) : endsOf b (l.take (k + 1)) = endsOf b (l.take k) ++ (if b < l[k].stop then [l[k].stop] else []) := by
  unfold endsOf
  rw [List.take_succ_eq_append_getElem h, List.filter_append, List.map_append]
  congr 1
  by_cases hb : b < l[k].stop <;> simp [hb]
theorem infoSlot2 : (Try.prog.info? 34).map (fun i => (i.zero, i.size, i.bytes)) = some (some (.agg #[.int .i64 0, .int .i64 0, .int .i64 0, .int .i64 0]), 4, 32) := by kernel_rfl
@[go_sem] theorem eql_slots_nil (w : World) (A : Option Addr) (n c n' c' : Nat) : (binOp .eql 44 (.slice A n c) (.slice none n' c')).run Try.prog w = .ok (.bool A.isNone) w :=
  Lib.run_eql_slice_nil w _ _ A n c n' c' Try.underlying44
theorem cloneS_any (A : Option Addr) (c : Nat) (l : List SlotR) (w : World) (hl : IsSlots w A c l) (hn : l.length * 32 ≤ 140737488355328) :
    Calls Try.prog 43 #[.slice A l.length c] w fun e w' => ∃ A' c', e = .returned (.slice A' l.length c') ∧ Owns encS 4 w.heap.size 34 w' A' c' l ∧ SinceOf w w' := by
  obtain ⟨i0, hi, hz0, hz1, hz2⟩ := info_parts infoSlot2
  cases A with
  | none =>
    obtain rfl : c = 0 := hl.1 rfl
    have hl0 : l = [] := by
      rcases hl.2 with h | ⟨g, off, h, _⟩
      · exact h
      · cases h
    subst hl0
    go_enter Try.func43, Try.ntmps43
    go_wp2_with fail
    go_returns
    exact ⟨none, 0, rfl, Owns.nil _ _ _ _ _, SinceOf.refl _⟩
  | some ad =>
    go_enter Try.func43, Try.ntmps43
    go_wp2_with (at_builtin; refine wpList_append_row rfl (.tmp 5) (.tmp 6) 44 rfl encS_len (by omega) encS_one i0 _ 32 Try.underlying44 hi hz0 hz1 hz2 rfl (l := []) (A := some ⟨w.heap.size, 0, none⟩) (c := 0) (base := w.heap.size) rfl (World.ownsRow_lit w #[] 0 (Nat.le_refl _) (Nat.zero_le _) rfl) (m := l) rfl (hl.of (SinceOf.alloc (SinceOf.refl w) _)) (by unfold maxLen; simp; omega) (by simpa using hn) (by simp) ?_; intro A' c' w' hown hgrow _)
    go_returns
    exact ⟨A', c', rfl, hown, ((SinceOf.refl w).alloc _).grown hgrow (by intro k hk; simp [blockOf] at hk; omega)⟩
@[go_sem] theorem cell_putObj (w : World) (D n i : Nat) (o : Obj) [h : Nonempty (Apart n D)] : (w.putObj D o).cell? ⟨n, i, none⟩ = w.cell? ⟨n, i, none⟩ :=
  h.elim fun h => World.cell?_of_block (World.putObj_heap_other h.ne)
theorem since_putObj {w V : World} {D : Nat} (o : Obj) (h : SinceOf w V) (hD : w.heap.size ≤ D) : SinceOf w (V.putObj D o) :=
  SinceOf.of_below (h.below.trans (below_putObj V o h.size hD))
theorem heap_set5 (w : World) (a b D : Nat) (ha : D ≠ a) (hb : D ≠ b) (u0 u1 u2 u3 u4 : Value) : (((((w.setCell ⟨a, 0, none⟩ u0).setCell ⟨a, 1, none⟩ u1).setCell ⟨a, 2, none⟩ u2).setCell ⟨a, 3, none⟩ u3).setCell ⟨b, 0, none⟩ u4).heap[D]? = w.heap[D]? := by
  rw [Below.heap_setCell _ _ _ _ hb, Below.heap_setCell _ _ _ _ ha, Below.heap_setCell _ _ _ _ ha, Below.heap_setCell _ _ _ _ ha, Below.heap_setCell _ _ _ _ ha]
theorem since_fold {a : World} {o : Obj} (y : Since (a.alloc o).drew) : ∃ z : Since a, z.wd = y.wd :=
  ⟨⟨y.wd, ((Below.refl a.heap.size a).alloc (Nat.le_refl _) o).drew.trans (y.below.mono (by show a.heap.size ≤ (a.alloc o).heap.size; simp))⟩, rfl⟩
theorem hnew2_any (w : World) : Calls Try.prog 72 #[lessF] w fun e w' => ∃ g B, e = .returned (.pointer (some ⟨g, 0, none⟩)) ∧ HeapIs w' B g [] 0 ∧ w.heap.size ≤ B ∧ ∃ x : Since w, w' = x.wd :=
  (hnew_any w).mono fun e w' ⟨he, hh, hl⟩ => ⟨_, _, he, hh, Nat.le_refl _, hl.since⟩
theorem push2_any (w0 : World) (B g : Nat) (L : List (Int × Int)) (next x : Int) (y : Since w0) (h : HeapIs y.wd B g L next) (hB : w0.heap.size ≤ B) (hord : HeapOrd L) (hL : L.length < 1099511627776) (hn0 : 0 ≤ next) (hn1 : next < 1099511627776) :
    Calls Try.prog 74 #[.pointer (some ⟨g, 0, none⟩), .int .i64 x] y.wd fun e w' => e = .returned (.tuple #[]) ∧ ∃ z : Since w0, w' = z.wd ∧ ∃ L', HeapIs z.wd B g L' (next + 1) ∧ HeapOrd L' ∧ L'.Perm ((x, next) :: L) :=
  (push_any B g L next x y.wd h hord hL hn0 hn1).mono fun e w' ⟨he, L', h1, h2, h3, h4⟩ => ⟨he, ⟨w', y.below.trans (h4.mono hB)⟩, rfl, L', h1, h2, h3⟩
set_option maxRecDepth 100000 in
set_option maxHeartbeats 8000000 in
theorem on_any (s : ShopR) (A : Option Addr) (c : Nat) (L : List JobR) (B : Option Addr) (d : Nat) (l : List SlotR) (jb m : Nat) (w : World) (hs : IsShop w s) (h : IsJobs w A c L) (gp : GoodP s L) (hord : ∀ j ∈ L, 0 ≤ j.ord ∧ j.ord ≤ 1000) (hl : IsSlots w B d l) (hll : l.length < 1073741824) (hn : NamedS s L l) (hjb : jb < L.length) (hm : m < s.cals.length) :
    Yields Try.prog 55 #[shopV s, .slice A L.length c, .slice B l.length d, .int .i64 jb, .int .i64 m] w (slotOpt (onV s L l jb m)) := by
  apply Yields.ret
  have BG := fun W (hW : SinceOf w W) => beginning_any s A c L B d l jb m W (hs.of hW) (h.of hW) gp (hl.of hW) (by omega) hn hjb hm
  have hcl := hs.cals.len
  have hjl := h.len
  have hka := hs.cals.all _ (List.getElem_mem hm)
  have NX := fun t W hW => next_any (w := W) t (hka.of hW)
  have FI := fun t k W hW => finish_any (w := W) t k (hka.of hW)
  have en : ∀ t, nextAt s m t = nextV s.cals[m].P s.cals[m].S s.cals[m].D t := fun t => by unfold nextAt; rw [calAt_at hm]
  have ef : ∀ t k, finishAt s m t k = finishV s.cals[m].P s.cals[m].S s.cals[m].D t k := fun t k => by unfold finishAt; rw [calAt_at hm]
  obtain ⟨gc, oc, hAc, hrc⟩ := hs.cals.row.at_ (by omega)
  obtain ⟨gj, oj, hAj, hrj⟩ := h.row.at_ (by omega)
  have hOc := hrc.there
  have hOj := hrj.there
  have k0 := hrc.k0 m hm
  have k1 := hrc.k1 m hm
  have k2 := hrc.k2 m hm
  have i1 := hrj.j1 jb hjb
  have ed : (jobAt L jb).dur = L[jb].dur := by rw [jobAt_at hjb]
  obtain ⟨res, hres⟩ : ∃ v, v = onV s L l jb m := ⟨_, rfl⟩
  rw [← hres]
  unfold onV at hres
  obtain ⟨sA, sc, cals, sB, sd, R, most⟩ := s
  simp only at *
  subst hAc hAj
  have H := Lib.hid (And.intro hs (And.intro h (And.intro gp (And.intro hord (And.intro hl (And.intro hn (And.intro en (And.intro ef (And.intro ed NX)))))))))
  generalize cals[m] = K at *
  generalize beginV _ L jb m (jobAt L jb).rel l = bv at *
  have HF := Lib.hid FI
  clear hs h gp hord hl hn en ef ed hka hrc hrj NX FI
  refine (callsIn_wide (n := 3)).1 ?_
  refine callsIn_of_wp_marks Try.func55 rfl trivial ?_ rfl
  refine wpIn_wide.2 ?_
  simp only [Try.ntmps55, List.size_toArray, List.length_cons, List.length_nil, Nat.reduceAdd, Nat.reduceSub, Array.replicate_succ, Array.replicate_zero, List.push_toArray, List.append_toArray, List.nil_append, List.cons_append]
  cases bv with
  | none =>
    have HR := Lib.hid hres
    clear hres
    go_wp2_with fail
    (with_reducible refine (BG _ (by (repeat (first | (with_reducible exact SinceOf.refl _) | (with_reducible assumption) | (with_reducible refine SinceOf.alloc ?_ _) | (with_reducible refine SinceOf.drew ?_) | (with_reducible refine SinceOf.drewN ?_ _) | (with_reducible refine SinceOf.later ?_ _) | (with_reducible refine SinceOf.further ?_ _) | (with_reducible refine SinceOf.setCell ?_ (by first | exact Nat.le_refl _ | (simp; done) | omega | (simp; omega)) _))))).calls.mono ?_)
    rintro e _ ⟨rfl, x1, rfl⟩
    unfold beginR
    go_wp2_with fail
    refine ⟨slotOpt none, ?_, by rw [HR.out], by (repeat (first | (with_reducible exact SinceOf.refl _) | (with_reducible assumption) | (with_reducible refine SinceOf.alloc ?_ _) | (with_reducible refine SinceOf.drew ?_) | (with_reducible refine SinceOf.drewN ?_ _) | (with_reducible refine SinceOf.later ?_ _) | (with_reducible refine SinceOf.further ?_ _) | (with_reducible refine SinceOf.setCell ?_ (by first | exact Nat.le_refl _ | (simp; done) | omega | (simp; omega)) _)))⟩
    simp [results, Try.results55, go_sem, slotOpt]
  | some b =>
    have HR := Lib.hid hres
    clear hres
    go_wp2_with fail
    (with_reducible refine (BG _ (by (repeat (first | (with_reducible exact SinceOf.refl _) | (with_reducible assumption) | (with_reducible refine SinceOf.alloc ?_ _) | (with_reducible refine SinceOf.drew ?_) | (with_reducible refine SinceOf.drewN ?_ _) | (with_reducible refine SinceOf.later ?_ _) | (with_reducible refine SinceOf.further ?_ _) | (with_reducible refine SinceOf.setCell ?_ (by first | exact Nat.le_refl _ | (simp; done) | omega | (simp; omega)) _))))).calls.mono ?_)
    rintro e _ ⟨rfl, x1, rfl⟩
    unfold beginR
    go_wp2_with fail
    refine (hnew2_any _).mono ?_
    rintro e _ ⟨gH, gB, rfl, hH, hB, y1, rfl⟩
    have HH := Lib.hid (And.intro hH hB)
    clear BG hH hB
    go_wp2_with fail
    (with_reducible refine (push2_any _ gB gH [] 0 b y1 HH.out.1 HH.out.2 HeapOrd.nil (by decide) (by decide) (by decide)).mono ?_)
    rintro e _ ⟨rfl, y2, rfl, L1, hh1, ho1, hp1⟩
    have H1 := Lib.hid (And.intro hh1 (And.intro ho1 hp1))
    clear hh1 ho1 hp1
    go_wp2_with fail
    go_loopg [48] l.length (fun gas s48 wr => ∃ (k : Nat) (z : Since (x1.wd.alloc (.cells #[.int .i64 K.P, .slice K.A K.S.length K.c, .slice K.B K.D.length K.d] 74))) (L2 : List (Int × Int)), k ≤ l.length ∧ l.length - k ≤ gas ∧ s48 = .int .i64 k ∧ wr = z.wd ∧ HeapIs z.wd gB gH L2 L2.length ∧ HeapOrd L2 ∧ L2.length ≤ k + 1 ∧ (L2.map (·.1)).Perm (b :: endsOf b (l.take k)))
    case atStart => 
      refine ⟨0, y2, L1, by omega, by omega, rfl, rfl, ?_, H1.out.2.1, ?_, ?_⟩
      · have := H1.out.2.2.length_eq
        simp at this
        rw [this]; exact H1.out.1
      · have := H1.out.2.2.length_eq
        simp at this ⊢; omega
      · have := H1.out.2.2.map (·.1)
        simpa [endsOf] using this
    case round =>
      obtain ⟨k, z, L2, hk, hgas, rfl, rfl, hh2, ho2, hl2, hp2⟩ := hrel
      have HG := Lib.hid (And.intro hh2 (And.intro ho2 (And.intro hl2 hp2)))
      clear hh2 ho2 hl2 hp2
      by_cases hlt : k < l.length
      · have hsn := endsOf_snoc b hlt
        have hrl := H.out.2.2.2.2.1.of (w' := z.wd) (by (repeat (first | (with_reducible exact SinceOf.refl _) | (with_reducible assumption) | (with_reducible refine SinceOf.alloc ?_ _) | (with_reducible refine SinceOf.drew ?_) | (with_reducible refine SinceOf.drewN ?_ _) | (with_reducible refine SinceOf.later ?_ _) | (with_reducible refine SinceOf.further ?_ _) | (with_reducible refine SinceOf.setCell ?_ (by first | exact Nat.le_refl _ | (simp; done) | omega | (simp; omega)) _))))
        obtain ⟨gs, os, rfl, hrs⟩ := hrl.at_ (by omega)
        have hOs := hrs.there
        have s0 := hrs.s0 k hlt
        have s1 := hrs.s1 k hlt
        have s2 := hrs.s2 k hlt
        have s3 := hrs.s3 k hlt
        generalize l[k].job = xj at *
        generalize l[k].mach = xm at *
        generalize l[k].start = xs at *
        generalize l[k].stop = xe at *
        clear hrs hrl
        by_cases hbx : b < xe
        · rw [if_pos hbx] at hsn
          have HN := Lib.hid hsn
          clear hsn
          have hd : decide (b < xe) = true := by simpa using hbx
          go_wp2_with fail
          (with_reducible refine (push2_any _ gB gH L2 L2.length xe ⟨_, z.below.alloc z.size (.cells #[.int .i64 xj, .int .i64 xm, .int .i64 xs, .int .i64 xe] 34)⟩ (HG.out.1.of ((SinceOf.refl _).alloc _)) HH.out.2 HG.out.2.1 (by have := HG.out.2.2.1; omega) (by omega) (by have := HG.out.2.2.1; omega)).mono ?_)
          rintro e _ ⟨rfl, y3, rfl, L3, hh3, ho3, hp3⟩
          have HE := Lib.hid (And.intro hh3 (And.intro ho3 hp3))
          clear hh3 ho3 hp3
          go_wp2_with fail
          go_roundg (l.length - (k + 1))
          case measure => omega
          case rel =>
            have hlen := HE.out.2.2.length_eq
            simp at hlen
            refine ⟨k + 1, y3, L3, by omega, by omega, by go_num, rfl, ?_, HE.out.2.1, by have := HG.out.2.2.1; omega, ?_⟩
            · rw [hlen]; exact HE.out.1
            · rw [HN.out]
              refine (HE.out.2.2.map (·.1)).trans ?_
              refine ((HG.out.2.2.2).cons xe).trans ?_
              refine (List.Perm.swap b xe _).trans (List.Perm.cons b ?_)
              exact (List.perm_append_singleton xe _).symm
        · rw [if_neg hbx] at hsn
          have HN := Lib.hid hsn
          clear hsn
          have hd : decide (b < xe) = false := by simpa using hbx
          go_wp2_with fail
          go_roundg (l.length - (k + 1))
          case measure => omega
          case rel => exact ⟨k + 1, ⟨_, z.below.alloc z.size _⟩, L2, by omega, by omega, by go_num, rfl, HG.out.1.of ((SinceOf.refl _).alloc _), HG.out.2.1, by have := HG.out.2.2.1; omega, by rw [HN.out, List.append_nil]; exact HG.out.2.2.2⟩
      · have hkl : k = l.length := by omega
        have hpe := HG.out.2.2.2
        rw [hkl, List.take_length] at hpe
        have hdr := drains_sort hpe
        have HD := Lib.hid hdr
        clear hpe hdr hkl
        go_wp2_with fail
        refine (hall_any gH _).mono ?_
        rintro e _ ⟨rfl, rfl⟩
        go_wp2_with fail
        obtain ⟨wl, hwl⟩ : ∃ wl, wl = z.wd.alloc (.cells #[.pointer (some ⟨gH, 0, none⟩)] 127) := ⟨_, rfl⟩
        have hsl : SinceOf z.wd wl := by rw [hwl]; exact (SinceOf.refl _).alloc _
        have hzw : SinceOf w z.wd := by (repeat (first | (with_reducible exact SinceOf.refl _) | (with_reducible assumption) | (with_reducible refine SinceOf.alloc ?_ _) | (with_reducible refine SinceOf.drew ?_) | (with_reducible refine SinceOf.drewN ?_ _) | (with_reducible refine SinceOf.later ?_ _) | (with_reducible refine SinceOf.further ?_ _) | (with_reducible refine SinceOf.setCell ?_ (by first | exact Nat.le_refl _ | (simp; done) | omega | (simp; omega)) _)))
        have hwz : w.heap.size + 8 ≤ z.wd.heap.size := by have h8 := z.size; have h9 := x1.size; simp at h8 h9; omega
        refine (wpIn_wide (n := 3)).1 ?_
        refine wpIn_rangeFunc_local rfl (by decide) (gf := 88) (lb := #[.pointer (some ⟨z.wd.heap.size, 0, none⟩)]) rfl trivial (enters_of Try.func88 (by kernel_rfl) rfl)
          (hseq_any gB gH z.wd.heap.size L2 L2.length _ _ (HG.out.1.of ((SinceOf.refl _).alloc _)) HG.out.2.1 (by have := HG.out.2.2.1; omega) HD.out (by simp) inferInstance _) (fun _ => rfl)
          (fun pre W => SinceOf (z.wd.alloc (.cells #[.pointer (some ⟨gH, 0, none⟩)] 127)) W ∧ ∃ post, sortI (b :: endsOf b l) = pre ++ post ∧ res = firstFit ⟨some ⟨gc, oc, none⟩, sc, cals, sB, sd, R, most⟩ L l jb m post)
          (OnIx res w (z.wd.alloc (.cells #[.pointer (some ⟨gH, 0, none⟩)] 127)) (w.heap.size + 1 + 1 + 1 + 1 + 1) (w.heap.size + 1 + 1 + 1 + 1 + 1 + 1))
          (fun pre W W' hi hb => ⟨SinceOf.of_below (hi.1.below.trans hb), hi.2⟩) (fun c => onIx_local (by simp; omega) (by simp; omega) (by simp; omega) c)
          ⟨SinceOf.refl _, _, rfl, HR.out⟩ ?round ?done ?stop
        case round =>
          rintro lp pre t post W hxs hsz ⟨⟨y4, rfl⟩, post', hxs', hres⟩
          apply Exists.intro
          constructor
          · intro K hK
            gi_wp2_with fail
            exact hK
          · rintro W2 hsz2 ⟨⟨y5, rfl⟩, -⟩
            rw [hxs] at hxs'
            have hpp := List.append_cancel_left hxs'
            rw [← hpp, firstFit, H.out.2.2.2.2.2.2.1 t] at hres
            simp only [H.out.2.2.2.2.2.2.2.1] at hres
            rw [H.out.2.2.2.2.2.2.2.2.1] at hres
            have hz5 : SinceOf w y5.wd := by (repeat (first | (with_reducible exact SinceOf.refl _) | (with_reducible assumption) | (with_reducible refine SinceOf.alloc ?_ _) | (with_reducible refine SinceOf.drew ?_) | (with_reducible refine SinceOf.drewN ?_ _) | (with_reducible refine SinceOf.later ?_ _) | (with_reducible refine SinceOf.further ?_ _) | (with_reducible refine SinceOf.setCell ?_ (by first | exact Nat.le_refl _ | (simp; done) | omega | (simp; omega)) _)))
            have NT := fun W hW => H.out.2.2.2.2.2.2.2.2.2 t W hW
            have FT := fun n W hW => HF.out n L[jb].dur W hW
            obtain ⟨sx, hsx⟩ : ∃ s : ShopR, s = ⟨some ⟨gc, oc, none⟩, sc, cals, sB, sd, R, most⟩ := ⟨_, rfl⟩
            simp only [← hsx] at hres
            unfold pairV at NT FT
            generalize nextV K.P K.S K.D t = nv at *
            obtain ⟨n1, n2⟩ := nv
            simp only at hres NT
            have FT1 := FT n1
            clear FT
            generalize finishV K.P K.S K.D n1 L[jb].dur = fv at *
            obtain ⟨f1, f2⟩ := fv
            simp only at hres FT1
            generalize L[jb].dur = du at *
            by_cases hn2 : n2 = 0
            · subst hn2
              rw [if_pos rfl] at hres
              have HE := Lib.hid hres
              have HSX := Lib.hid (And.intro hsx (And.intro hpp hxs))
              clear hres hxs hxs' hpp hsx
              gi_wp2_with fail
              refine ⟨trivial, ?_⟩
              refine (CallsIn.inRound lp (callsIn_wide.2 (NT _ (by (repeat (first | (with_reducible exact SinceOf.refl _) | (with_reducible assumption) | (with_reducible refine SinceOf.alloc ?_ _) | (with_reducible refine SinceOf.drew ?_) | (with_reducible refine SinceOf.drewN ?_ _) | (with_reducible refine SinceOf.later ?_ _) | (with_reducible refine SinceOf.further ?_ _) | (with_reducible refine SinceOf.setCell ?_ (by first | exact Nat.le_refl _ | (simp; done) | omega | (simp; omega)) _))))).calls)).mono ?_
              rintro e _ ⟨rfl, x6, rfl⟩
              gi_wp2_with fail
              refine region_in_round (by kernel_rfl) (by kernel_rfl) (S := fun W => W.cell? ⟨x1.wd.heap.size, 0, none⟩ = some (.int .i64 K.P) ∧ W.cell? ⟨x1.wd.heap.size, 1, none⟩ = some (.slice K.A K.S.length K.c) ∧ W.cell? ⟨x1.wd.heap.size, 2, none⟩ = some (.slice K.B K.D.length K.d) ∧ W.cell? ⟨w.heap.size + 1, 0, none⟩ = some (.slice (some ⟨gj, oj, none⟩) L.length c) ∧ W.cell? ⟨w.heap.size + 1 + 1 + 1, 0, none⟩ = some (.int .i64 jb) ∧ W.cell? ⟨gj, oj + jb * 6 + 1, none⟩ = some (.int .i64 du)) ?_ (fun hHeld => ?_)
              · simp [go_sem, i1]
              refine take_at (i := 0) (d := some 73) (v := ?_) rfl rfl (by kernel_rfl) (by kernel_rfl) (by kernel_rfl) (fun _ _ _ h => h) (Or.inl ⟨by rfl, ?_⟩) (by assumption) ?_
              rotate_left 1
              · (intro w hSw; (try dsimp only at hSw); go_simp) <;> (with_reducible rfl)
              (try simp only [Act.put, List.setIfInBounds_toArray, List.set_cons_zero, List.set_cons_succ])
              refine take_at (i := 1) (d := some 74) (v := ?_) rfl rfl (by kernel_rfl) (by kernel_rfl) (by kernel_rfl) (fun _ _ _ h => h) (Or.inl ⟨by rfl, ?_⟩) (by assumption) ?_
              rotate_left 1
              · (intro w hSw; (try dsimp only at hSw); go_simp) <;> (with_reducible rfl)
              (try simp only [Act.put, List.setIfInBounds_toArray, List.set_cons_zero, List.set_cons_succ])
              refine take_at (i := 2) (d := some 75) (v := ?_) rfl rfl (by kernel_rfl) (by kernel_rfl) (by kernel_rfl) (fun _ _ _ h => h) (Or.inl ⟨by rfl, ?_⟩) (by assumption) ?_
              rotate_left 1
              · (intro w hSw; (try dsimp only at hSw); go_simp) <;> (with_reducible rfl)
              (try simp only [Act.put, List.setIfInBounds_toArray, List.set_cons_zero, List.set_cons_succ])
              refine take_at (i := 3) (d := some 76) (v := ?_) rfl rfl (by kernel_rfl) (by kernel_rfl) (by kernel_rfl) (fun _ _ _ h => h) (Or.inl ⟨by rfl, ?_⟩) (by assumption) ?_
              rotate_left 1
              · (intro w hSw; (try dsimp only at hSw); go_simp) <;> (with_reducible rfl)
              (try simp only [Act.put, List.setIfInBounds_toArray, List.set_cons_zero, List.set_cons_succ])
              refine take_at (i := 4) (d := some 77) (v := ?_) rfl rfl (by kernel_rfl) (by kernel_rfl) (by kernel_rfl) (fun _ _ _ h => h) (Or.inl ⟨by rfl, ?_⟩) (by assumption) ?_
              rotate_left 1
              · (intro w hSw; (try dsimp only at hSw); go_simp) <;> (with_reducible rfl)
              (try simp only [Act.put, List.setIfInBounds_toArray, List.set_cons_zero, List.set_cons_succ])
              refine take_at (i := 5) (d := some 78) (v := ?_) rfl rfl (by kernel_rfl) (by kernel_rfl) (by kernel_rfl) (fun _ _ _ h => h) (Or.inl ⟨by rfl, ?_⟩) (by assumption) ?_
              rotate_left 1
              · (intro w hSw; (try dsimp only at hSw); go_simp) <;> (with_reducible rfl)
              (try simp only [Act.put, List.setIfInBounds_toArray, List.set_cons_zero, List.set_cons_succ])
              refine take_at (i := 6) (d := some 79) (v := ?_) rfl rfl (by kernel_rfl) (by kernel_rfl) (by kernel_rfl) (fun _ _ _ h => h) (Or.inl ⟨by rfl, ?_⟩) (by assumption) ?_
              rotate_left 1
              · (intro w hSw; (try dsimp only at hSw); go_simp) <;> (with_reducible rfl)
              (try simp only [Act.put, List.setIfInBounds_toArray, List.set_cons_zero, List.set_cons_succ])
              refine step_at (i := 7) (by kernel_rfl) rfl (fun K' hK => ?_)
              go_simp
              (with_reducible refine (FT1 _ (by (repeat (first | (with_reducible exact SinceOf.refl _) | (with_reducible assumption) | (with_reducible refine SinceOf.alloc ?_ _) | (with_reducible refine SinceOf.drew ?_) | (with_reducible refine SinceOf.drewN ?_ _) | (with_reducible refine SinceOf.later ?_ _) | (with_reducible refine SinceOf.further ?_ _) | (with_reducible refine SinceOf.setCell ?_ (by first | exact Nat.le_refl _ | (simp; done) | omega | (simp; omega)) _))))).calls.mono ?_)
              rintro e _ ⟨rfl, x7, rfl⟩
              go_wp2_with fail
              refine hK.out _ _ ?_ (fun hHeld2 => ?_)
              · simp [go_sem, i1]
              clear hK K' hHeld
              refine take_at (i := 8) (d := some 72) (v := ?_) rfl rfl (by kernel_rfl) (by kernel_rfl) (by kernel_rfl) (fun _ _ _ h => h) (Or.inl ⟨by rfl, ?_⟩) (by assumption) ?_
              rotate_left 1
              · (intro w hSw; (try dsimp only at hSw); go_simp) <;> (with_reducible rfl)
              (try simp only [Act.put, List.setIfInBounds_toArray, List.set_cons_zero, List.set_cons_succ])
              refine take_at (i := 9) (d := some 81) (v := ?_) rfl rfl (by kernel_rfl) (by kernel_rfl) (by kernel_rfl) (fun _ _ _ h => h) (Or.inl ⟨by rfl, ?_⟩) (by assumption) ?_
              rotate_left 1
              · (intro w hSw; (try dsimp only at hSw); go_simp) <;> (with_reducible rfl)
              (try simp only [Act.put, List.setIfInBounds_toArray, List.set_cons_zero, List.set_cons_succ])
              refine take_at (i := 10) (d := some 82) (v := ?_) rfl rfl (by kernel_rfl) (by kernel_rfl) (by kernel_rfl) (fun _ _ _ h => h) (Or.inl ⟨by rfl, ?_⟩) (by assumption) ?_
              rotate_left 1
              · (intro w hSw; (try dsimp only at hSw); go_simp) <;> (with_reducible rfl)
              (try simp only [Act.put, List.setIfInBounds_toArray, List.set_cons_zero, List.set_cons_succ])
              refine take_at (i := 11) (d := some 21) (v := ?_) rfl rfl (by kernel_rfl) (by kernel_rfl) (by kernel_rfl) (fun _ _ _ h => h) (Or.inl ⟨by rfl, ?_⟩) (by assumption) ?_
              rotate_left 1
              · (intro w hSw; (try dsimp only at hSw); go_simp) <;> (with_reducible rfl)
              (try simp only [Act.put, List.setIfInBounds_toArray, List.set_cons_zero, List.set_cons_succ])
              refine take_at (i := 12) (d := some 20) (v := ?_) rfl rfl (by kernel_rfl) (by kernel_rfl) (by kernel_rfl) (fun _ _ _ h => h) (Or.inl ⟨by rfl, ?_⟩) (by assumption) ?_
              rotate_left 1
              · (intro w hSw; (try dsimp only at hSw); go_simp) <;> (with_reducible rfl)
              (try simp only [Act.put, List.setIfInBounds_toArray, List.set_cons_zero, List.set_cons_succ])
              refine wpAnyH_done (by kernel_rfl) (Calm.normal ?_) _
              clear hHeld2
              by_cases hf2 : f2 = 0
              · subst hf2
                have hE3 := HE.out
                rw [if_pos rfl] at hE3
                obtain ⟨x, hx⟩ : ∃ x : SlotR, x = ⟨jb, m, n1, f1⟩ := ⟨_, rfl⟩
                rw [← hx] at hE3
                have VA := fun A' c' (W : World) (hW : SinceOf w W) (hsl : IsSlots W A' c' (l ++ [x])) (hc : (l ++ [x]).length ≤ c') => validS_any _ _ c L A' c' (l ++ [x]) W (H.out.1.of hW) (H.out.2.1.of hW) H.out.2.2.1 H.out.2.2.2.1 hsl (by simp; omega) hc
                have ev : validV ⟨some ⟨gc, oc, none⟩, sc, cals, sB, sd, R, most⟩ L (l ++ [x]) = validV sx L (l ++ [x]) := by rw [HSX.out.1]
                rw [ev] at VA
                generalize validV sx L (l ++ [x]) = vv at *
                obtain ⟨v1, v2⟩ := vv
                simp only at hE3 VA
                have CS := fun (W : World) (hW : SinceOf w W) => cloneS_any B d l W (H.out.2.2.2.2.1.of hW) (by omega)
                have HE3 := Lib.hid (And.intro hE3 hx)
                have HVA := Lib.hid VA
                have HCS := Lib.hid CS
                clear hE3 hx VA ev CS HE NT FT1
                gi_wp2_with fail
                obtain ⟨i0, hi, hz0, hz1, hz2⟩ := info_parts infoSlot2
                have HI := Lib.hid (And.intro hi (And.intro hz0 (And.intro hz1 hz2)))
                clear hi hz0 hz1 hz2
                obtain ⟨WB, hWB⟩ : ∃ W, W = (x7.wd.alloc (.cells #[.int .i64 jb, .int .i64 m, .int .i64 n1, .int .i64 f1] 34)).heap.size := ⟨_, rfl⟩
                have HWB := Lib.hid hWB
                clear hWB
                refine region_in_round (by kernel_rfl) (by kernel_rfl) (S := fun W => W.cell? ⟨w.heap.size, 0, none⟩ = some (.slice (some ⟨gc, oc, none⟩) cals.length sc) ∧ W.cell? ⟨w.heap.size, 1, none⟩ = some (.slice sB R.length sd) ∧ W.cell? ⟨w.heap.size, 2, none⟩ = some (.int .i64 most) ∧ W.cell? ⟨w.heap.size + 1, 0, none⟩ = some (.slice (some ⟨gj, oj, none⟩) L.length c) ∧ W.cell? ⟨w.heap.size + 1 + 1, 0, none⟩ = some (.slice B l.length d) ∧
                  W.cell? ⟨x7.wd.heap.size, 0, none⟩ = some (.int .i64 jb) ∧ W.cell? ⟨x7.wd.heap.size, 1, none⟩ = some (.int .i64 m) ∧ W.cell? ⟨x7.wd.heap.size, 2, none⟩ = some (.int .i64 n1) ∧ W.cell? ⟨x7.wd.heap.size, 3, none⟩ = some (.int .i64 f1)) ?_ (fun hHeld => ?_)
                · simp [go_sem]
                refine take_at (i := 0) (d := some 91) (v := ?_) rfl rfl (by kernel_rfl) (by kernel_rfl) (by kernel_rfl) (fun _ _ _ h => h) (Or.inl ⟨by rfl, ?_⟩) (by assumption) ?_
                rotate_left 1
                · (intro w hSw; (try dsimp only at hSw); go_simp) <;> (with_reducible rfl)
                (try simp only [Act.put, List.setIfInBounds_toArray, List.set_cons_zero, List.set_cons_succ])
                refine take_at (i := 1) (d := some 92) (v := ?_) rfl rfl (by kernel_rfl) (by kernel_rfl) (by kernel_rfl) (fun _ _ _ h => h) (Or.inl ⟨by rfl, ?_⟩) (by assumption) ?_
                rotate_left 1
                · (intro w hSw; (try dsimp only at hSw); go_simp) <;> (with_reducible rfl)
                (try simp only [Act.put, List.setIfInBounds_toArray, List.set_cons_zero, List.set_cons_succ])
                refine take_at (i := 2) (d := some 93) (v := ?_) rfl rfl (by kernel_rfl) (by kernel_rfl) (by kernel_rfl) (fun _ _ _ h => h) (Or.inl ⟨by rfl, ?_⟩) (by assumption) ?_
                rotate_left 1
                · (intro w hSw; (try dsimp only at hSw); go_simp) <;> (with_reducible rfl)
                (try simp only [Act.put, List.setIfInBounds_toArray, List.set_cons_zero, List.set_cons_succ])
                refine take_at (i := 4) (d := some 95) (v := ?_) rfl rfl (by kernel_rfl) (by kernel_rfl) (by kernel_rfl) (fun _ _ _ h => h) (Or.inl ⟨by rfl, ?_⟩) (by assumption) ?_
                rotate_left 1
                · (intro w hSw; (try dsimp only at hSw); go_simp) <;> (with_reducible rfl)
                (try simp only [Act.put, List.setIfInBounds_toArray, List.set_cons_zero, List.set_cons_succ])
                refine wpAnyH_ready (rs := [3, 5]) (by kernel_rfl) (by simp) (AllReadyH.cons rfl (fun K' hK => ?_) (AllReadyH.cons rfl (fun K' hK => ?_) AllReadyH.nil))
                all_goals go_simp
                all_goals first
                  | ((with_reducible refine (HCS.out _ (by (repeat (first | (with_reducible exact SinceOf.refl _) | (with_reducible assumption) | (with_reducible refine SinceOf.alloc ?_ _) | (with_reducible refine SinceOf.drew ?_) | (with_reducible refine SinceOf.drewN ?_ _) | (with_reducible refine SinceOf.later ?_ _) | (with_reducible refine SinceOf.further ?_ _) | (with_reducible refine SinceOf.setCell ?_ (by first | exact Nat.le_refl _ | (simp; done) | omega | (simp; omega)) _))))).mono ?_)
                     rintro e _ ⟨A9, c9, rfl, ho9, ⟨x9, rfl⟩⟩
                     go_wp2_with fail
                     refine hK.out _ _ (by simp [go_sem]) (fun hHeld2 => ?_)
                     clear hK K' hHeld
                     refine step_at (i := 5) (by kernel_rfl) rfl (fun K' hK => ?_)
                     go_simp
                     refine hK.out _ _ (by simp [go_sem]) (fun hHeld3 => ?_)
                     clear hK K' hHeld2
                     have hm9 := rowS_at x9.wd x9.wd.heap.size ⟨jb, m, n1, f1⟩ 34 rfl
                     have ho10 : Owns encS 4 (x7.wd.alloc (.cells #[.int .i64 jb, .int .i64 m, .int .i64 n1, .int .i64 f1] 34)).heap.size 34 (x9.wd.alloc (.cells #[.int .i64 jb, .int .i64 m, .int .i64 n1, .int .i64 f1] 34)) A9 c9 l := ho9.alloc _
                     obtain ⟨x10, hx10⟩ : ∃ z : Since (x7.wd.alloc (.cells #[.int .i64 jb, .int .i64 m, .int .i64 n1, .int .i64 f1] 34)), z.wd = x9.wd.alloc (.cells #[.int .i64 jb, .int .i64 m, .int .i64 n1, .int .i64 f1] 34) := ⟨⟨_, ((Below.refl _ _).drew.trans x9.below).alloc x9.size _⟩, rfl⟩
                     rw [← hx10] at hm9 ho10 hHeld3
                     rw [← hx10]
                     generalize x9.wd.heap.size = g10 at *
                     clear ho9 hx10)
                  | (refine hK.out _ _ (by simp [go_sem]) (fun hHeld2 => ?_)
                     clear hK K' hHeld
                     refine step_at (i := 3) (by kernel_rfl) rfl (fun K' hK => ?_)
                     go_simp
                     (with_reducible refine (HCS.out _ (by (repeat (first | (with_reducible exact SinceOf.refl _) | (with_reducible assumption) | (with_reducible refine SinceOf.alloc ?_ _) | (with_reducible refine SinceOf.drew ?_) | (with_reducible refine SinceOf.drewN ?_ _) | (with_reducible refine SinceOf.later ?_ _) | (with_reducible refine SinceOf.further ?_ _) | (with_reducible refine SinceOf.setCell ?_ (by first | exact Nat.le_refl _ | (simp; done) | omega | (simp; omega)) _))))).mono ?_)
                     rintro e _ ⟨A9, c9, rfl, ho9, ⟨x9, rfl⟩⟩
                     go_wp2_with fail
                     refine hK.out _ _ (by simp [go_sem]) (fun hHeld3 => ?_)
                     clear hK K' hHeld2
                     have hm9 := (rowS_at (x7.wd.alloc (.cells #[.int .i64 jb, .int .i64 m, .int .i64 n1, .int .i64 f1] 34)).drew _ ⟨jb, m, n1, f1⟩ 34 rfl).since x9
                     have ho10 : Owns encS 4 (x7.wd.alloc (.cells #[.int .i64 jb, .int .i64 m, .int .i64 n1, .int .i64 f1] 34)).heap.size 34 x9.wd A9 c9 l := ho9.base_le (by simp)
                     obtain ⟨x10, hx10⟩ := since_fold x9
                     rw [← hx10] at hm9 ho10 hHeld3
                     rw [← hx10]
                     rw [show (x7.wd.alloc (.cells #[.int .i64 jb, .int .i64 m, .int .i64 n1, .int .i64 f1] 34)).drew.heap.size = x7.wd.heap.size + 1 from by simp] at hm9
                     generalize x7.wd.heap.size + 1 = g10 at *
                     clear ho9 hx10)
                all_goals
                  obtain ⟨hi, hz0, hz1, hz2⟩ := HI.out
                  refine step_at (i := 6) (by kernel_rfl) rfl (fun K' hK => ?_)
                  refine step_append_row rfl (.tmp 94) (.tmp 96) 44 rfl encS_len (by omega) encS_one i0 _ 32 Try.underlying44 hi hz0 hz1 hz2 rfl (l := l) (A := A9) (c := c9) (base := (x7.wd.alloc (.cells #[.int .i64 jb, .int .i64 m, .int .i64 n1, .int .i64 f1] 34)).heap.size) rfl ho10 (m := [⟨jb, m, n1, f1⟩]) rfl hm9 (by unfold maxLen; simp; omega) (by simp; omega) x10.size ?_
                  intro A11 c11 w11 hown11 hgr11 hbl11
                  obtain ⟨x11, rfl⟩ := (SinceOf.grown (w := (x7.wd.alloc (.cells #[.int .i64 jb, .int .i64 m, .int .i64 n1, .int .i64 f1] 34))) ⟨x10, rfl⟩ hgr11 (fun q hq => (ho10.below q hq).1))
                  refine hK.out _ _ (by simp [go_sem]) (fun hHeld4 => ?_)
                  clear hK K' hHeld3 hi hz0 hz1 hz2
                  have hcap := hown11.le_cap
                  have VB := HVA.out A11 c11
                  rw [HE3.out.2] at VB
                  have V1 := VB x11.wd (by (repeat (first | (with_reducible exact SinceOf.refl _) | (with_reducible assumption) | (with_reducible refine SinceOf.alloc ?_ _) | (with_reducible refine SinceOf.drew ?_) | (with_reducible refine SinceOf.drewN ?_ _) | (with_reducible refine SinceOf.later ?_ _) | (with_reducible refine SinceOf.further ?_ _) | (with_reducible refine SinceOf.setCell ?_ (by first | exact Nat.le_refl _ | (simp; done) | omega | (simp; omega)) _)))) (hown11.isRow encS_len) hcap
                  rw [show (l ++ [(⟨jb, m, n1, f1⟩ : SlotR)]).length = l.length + 1 from by simp] at V1
                  clear VB hcap hbl11 hgr11 hm9 ho10
                  refine step_at (i := 7) (by kernel_rfl) rfl (fun K' hK => ?_)
                  go_simp
                  (with_reducible refine V1.calls.mono ?_)
                  rintro e _ ⟨rfl, x12, rfl⟩
                  go_wp2_with fail
                  refine hK.out _ _ (by simp [go_sem]) (fun hHeld5 => ?_)
                  clear hK K' hHeld4 V1
                  refine take_at (i := 8) (d := some 90) (v := ?_) rfl rfl (by kernel_rfl) (by kernel_rfl) (by kernel_rfl) (fun _ _ _ h => h) (Or.inl ⟨by rfl, ?_⟩) (by assumption) ?_
                  rotate_left 1
                  · (intro w hSw; (try dsimp only at hSw); go_simp) <;> (with_reducible rfl)
                  (try simp only [Act.put, List.setIfInBounds_toArray, List.set_cons_zero, List.set_cons_succ])
                  refine take_at (i := 9) (d := some 99) (v := ?_) rfl rfl (by kernel_rfl) (by kernel_rfl) (by kernel_rfl) (fun _ _ _ h => h) (Or.inl ⟨by rfl, ?_⟩) (by assumption) ?_
                  rotate_left 1
                  · (intro w hSw; (try dsimp only at hSw); go_simp) <;> (with_reducible rfl)
                  (try simp only [Act.put, List.setIfInBounds_toArray, List.set_cons_zero, List.set_cons_succ])
                  refine take_at (i := 10) (d := some 100) (v := ?_) rfl rfl (by kernel_rfl) (by kernel_rfl) (by kernel_rfl) (fun _ _ _ h => h) (Or.inl ⟨by rfl, ?_⟩) (by assumption) ?_
                  rotate_left 1
                  · (intro w hSw; (try dsimp only at hSw); go_simp) <;> (with_reducible rfl)
                  (try simp only [Act.put, List.setIfInBounds_toArray, List.set_cons_zero, List.set_cons_succ])
                  refine take_at (i := 11) (d := some 23) (v := ?_) rfl rfl (by kernel_rfl) (by kernel_rfl) (by kernel_rfl) (fun _ _ _ h => h) (Or.inl ⟨by rfl, ?_⟩) (by assumption) ?_
                  rotate_left 1
                  · (intro w hSw; (try dsimp only at hSw); go_simp) <;> (with_reducible rfl)
                  (try simp only [Act.put, List.setIfInBounds_toArray, List.set_cons_zero, List.set_cons_succ])
                  refine take_at (i := 12) (d := some 24) (v := ?_) rfl rfl (by kernel_rfl) (by kernel_rfl) (by kernel_rfl) (fun _ _ _ h => h) (Or.inl ⟨by rfl, ?_⟩) (by assumption) ?_
                  rotate_left 1
                  · (intro w hSw; (try dsimp only at hSw); go_simp) <;> (with_reducible rfl)
                  (try simp only [Act.put, List.setIfInBounds_toArray, List.set_cons_zero, List.set_cons_succ])
                  refine wpAnyH_done (by kernel_rfl) (Calm.normal ?_) _
                  clear hHeld5
                  have hzz : w.heap.size + 8 ≤ z.wd.heap.size := by have h8 := z.size; have h9 := x1.size; simp at h8 h9; omega
                  by_cases hv2 : v2 = 0
                  · subst hv2
                    have HZ := Lib.hid (show res = some ⟨jb, m, n1, f1⟩ by rw [HE3.out.1, if_pos rfl, HE3.out.2])
                    gi_wp2_with fail
                    refine ⟨?_, ⟨jb, m, n1, f1⟩, HZ.out, (show SinceOf w _ by (repeat (first | (with_reducible exact SinceOf.refl _) | (with_reducible assumption) | (with_reducible refine SinceOf.alloc ?_ _) | (with_reducible refine SinceOf.drew ?_) | (with_reducible refine SinceOf.drewN ?_ _) | (with_reducible refine SinceOf.later ?_ _) | (with_reducible refine SinceOf.further ?_ _) | (with_reducible refine SinceOf.setCell ?_ (by first | exact Nat.le_refl _ | (simp; done) | omega | (simp; omega)) _)))).below, by simp [go_sem], by simp [go_sem], by simp [go_sem], by simp [go_sem], by simp [go_sem]⟩
                    refine (Above.of_since (show SinceOf y5.wd x12.wd by (repeat (first | (with_reducible exact SinceOf.refl _) | (with_reducible assumption) | (with_reducible refine SinceOf.alloc ?_ _) | (with_reducible refine SinceOf.drew ?_) | (with_reducible refine SinceOf.drewN ?_ _) | (with_reducible refine SinceOf.later ?_ _) | (with_reducible refine SinceOf.further ?_ _) | (with_reducible refine SinceOf.setCell ?_ (by first | exact Nat.le_refl _ | (simp; done) | omega | (simp; omega)) _))))).trans ?_
                    exact ((((Above.setCell _ _ (by simp; omega)).trans (Above.setCell _ _ (by simp; omega))).trans (Above.setCell _ _ (by simp; omega))).trans (Above.setCell _ _ (by simp; omega))).trans (Above.setCell _ _ (by simp; omega))
                  · have hvb : (v2 == 0) = false := by simpa using hv2
                    have HZ := Lib.hid (show res = firstFit sx L l jb m post by rw [HE3.out.1, if_neg hv2])
                    clear hv2
                    gi_wp2_with fail
                    exact ⟨Above.of_since (by (repeat (first | (with_reducible exact SinceOf.refl _) | (with_reducible assumption) | (with_reducible refine SinceOf.alloc ?_ _) | (with_reducible refine SinceOf.drew ?_) | (with_reducible refine SinceOf.drewN ?_ _) | (with_reducible refine SinceOf.later ?_ _) | (with_reducible refine SinceOf.further ?_ _) | (with_reducible refine SinceOf.setCell ?_ (by first | exact Nat.le_refl _ | (simp; done) | omega | (simp; omega)) _)))), (by (repeat (first | (with_reducible exact SinceOf.refl _) | (with_reducible assumption) | (with_reducible refine SinceOf.alloc ?_ _) | (with_reducible refine SinceOf.drew ?_) | (with_reducible refine SinceOf.drewN ?_ _) | (with_reducible refine SinceOf.later ?_ _) | (with_reducible refine SinceOf.further ?_ _) | (with_reducible refine SinceOf.setCell ?_ (by first | exact Nat.le_refl _ | (simp; done) | omega | (simp; omega)) _)))), post, by rw [HSX.out.2.2]; simp, by rw [HZ.out, HSX.out.1]⟩
              · have hfb : (f2 != 0) = true := by simpa using hf2
                have HE2 := Lib.hid (show res = none by rw [HE.out, if_neg hf2])
                clear hf2
                gi_wp2_with fail
                exact ⟨Above.of_since (by (repeat (first | (with_reducible exact SinceOf.refl _) | (with_reducible assumption) | (with_reducible refine SinceOf.alloc ?_ _) | (with_reducible refine SinceOf.drew ?_) | (with_reducible refine SinceOf.drewN ?_ _) | (with_reducible refine SinceOf.later ?_ _) | (with_reducible refine SinceOf.further ?_ _) | (with_reducible refine SinceOf.setCell ?_ (by first | exact Nat.le_refl _ | (simp; done) | omega | (simp; omega)) _)))), rfl, HE2.out, by (repeat (first | (with_reducible exact SinceOf.refl _) | (with_reducible assumption) | (with_reducible refine SinceOf.alloc ?_ _) | (with_reducible refine SinceOf.drew ?_) | (with_reducible refine SinceOf.drewN ?_ _) | (with_reducible refine SinceOf.later ?_ _) | (with_reducible refine SinceOf.further ?_ _) | (with_reducible refine SinceOf.setCell ?_ (by first | exact Nat.le_refl _ | (simp; done) | omega | (simp; omega)) _)))⟩
            · rw [if_neg hn2] at hres
              have hnb : (n2 != 0) = true := by simpa using hn2
              have HE := Lib.hid hres
              clear hres hn2 hxs hxs' hpp hsx
              gi_wp2_with fail
              refine ⟨trivial, ?_⟩
              refine (CallsIn.inRound lp (callsIn_wide.2 (NT _ (by (repeat (first | (with_reducible exact SinceOf.refl _) | (with_reducible assumption) | (with_reducible refine SinceOf.alloc ?_ _) | (with_reducible refine SinceOf.drew ?_) | (with_reducible refine SinceOf.drewN ?_ _) | (with_reducible refine SinceOf.later ?_ _) | (with_reducible refine SinceOf.further ?_ _) | (with_reducible refine SinceOf.setCell ?_ (by first | exact Nat.le_refl _ | (simp; done) | omega | (simp; omega)) _))))).calls)).mono ?_
              rintro e _ ⟨rfl, x6, rfl⟩
              gi_wp2_with fail
              exact ⟨Above.of_since (by (repeat (first | (with_reducible exact SinceOf.refl _) | (with_reducible assumption) | (with_reducible refine SinceOf.alloc ?_ _) | (with_reducible refine SinceOf.drew ?_) | (with_reducible refine SinceOf.drewN ?_ _) | (with_reducible refine SinceOf.later ?_ _) | (with_reducible refine SinceOf.further ?_ _) | (with_reducible refine SinceOf.setCell ?_ (by first | exact Nat.le_refl _ | (simp; done) | omega | (simp; omega)) _)))), rfl, HE.out, by (repeat (first | (with_reducible exact SinceOf.refl _) | (with_reducible assumption) | (with_reducible refine SinceOf.alloc ?_ _) | (with_reducible refine SinceOf.drew ?_) | (with_reducible refine SinceOf.drewN ?_ _) | (with_reducible refine SinceOf.later ?_ _) | (with_reducible refine SinceOf.further ?_ _) | (with_reducible refine SinceOf.setCell ?_ (by first | exact Nat.le_refl _ | (simp; done) | omega | (simp; omega)) _)))⟩
        case done =>
          rintro D W hD ⟨⟨y9, rfl⟩, post, hp, hres⟩ hK
          have hp0 : post = [] := by
            have := congrArg List.length hp
            simp at this
            exact this
          subst hp0
          have HZ := Lib.hid (show res = none from hres)
          have HK := Lib.hid (And.intro hK hD)
          clear hp hres hK hD
          go_wp2_with fail
          have hzz : w.heap.size + 8 ≤ D := by have h7 := HK.out.2; have h8 := z.size; have h9 := x1.size; simp at h7 h8 h9; omega
          have hq1 : Nonempty (Apart (w.heap.size + 1 + 1 + 1 + 1 + 1) D) := ⟨⟨by omega⟩⟩
          have hq2 : Nonempty (Apart (w.heap.size + 1 + 1 + 1 + 1 + 1 + 1) D) := ⟨⟨by omega⟩⟩
          refine ⟨by simp, .inl ⟨_, _, rfl, run_takeDeferred ((heap_set5 _ _ _ _ (by omega) (by omega) _ _ _ _ _).trans HK.out.1), ?_⟩⟩
          refine ⟨slotOpt none, ?_, by rw [HZ.out], since_putObj _ (by (repeat (first | (with_reducible exact SinceOf.refl _) | (with_reducible assumption) | (with_reducible refine SinceOf.alloc ?_ _) | (with_reducible refine SinceOf.drew ?_) | (with_reducible refine SinceOf.drewN ?_ _) | (with_reducible refine SinceOf.later ?_ _) | (with_reducible refine SinceOf.further ?_ _) | (with_reducible refine SinceOf.setCell ?_ (by first | exact Nat.le_refl _ | (simp; done) | omega | (simp; omega)) _)))) (by omega)⟩
          simp [results, Try.results55, go_sem, slotOpt]
        case stop =>
          rintro D cc pre W hD hx hK
          cases cc <;> try exact hx.elim
          case ret =>
            obtain ⟨x, h1, h2, h3, h4, h5, h6, h7⟩ := hx
            have HX := Lib.hid (And.intro h1 (And.intro h2 (And.intro hK hD)))
            clear h1 h2 hK hD
            gi_wp2_with fail
            have hzz : w.heap.size + 8 ≤ D := by have h7 := HX.out.2.2.2; have h8 := z.size; have h9 := x1.size; simp at h7 h8 h9; omega
            have hq1 : Nonempty (Apart (w.heap.size + 1 + 1 + 1 + 1 + 1) D) := ⟨⟨by omega⟩⟩
            have hq2 : Nonempty (Apart (w.heap.size + 1 + 1 + 1 + 1 + 1 + 1) D) := ⟨⟨by omega⟩⟩
            refine ⟨by simp, .inl ⟨_, _, rfl, run_takeDeferred HX.out.2.2.1, ?_⟩⟩
            refine ⟨slotOpt (some x), ?_, by rw [HX.out.1], since_putObj _ (SinceOf.of_below HX.out.2.1) (by omega)⟩
            simp [results, Try.results55, go_sem, slotOpt, h3, h4, h5, h6, h7]
          case exit id =>
            obtain ⟨rfl, h2, ⟨y9, rfl⟩⟩ := hx
            have HZ := Lib.hid h2
            have HK := Lib.hid (And.intro hK hD)
            clear hK hD h2
            gi_wp2_with fail
            go_wp2_with fail
            have hzz : w.heap.size + 8 ≤ D := by have h7 := HK.out.2; have h8 := z.size; have h9 := x1.size; simp at h7 h8 h9; omega
            have hq1 : Nonempty (Apart (w.heap.size + 1 + 1 + 1 + 1 + 1) D) := ⟨⟨by omega⟩⟩
            have hq2 : Nonempty (Apart (w.heap.size + 1 + 1 + 1 + 1 + 1 + 1) D) := ⟨⟨by omega⟩⟩
            refine ⟨by simp, .inl ⟨_, _, rfl, run_takeDeferred ((heap_set5 _ _ _ _ (by omega) (by omega) _ _ _ _ _).trans HK.out.1), ?_⟩⟩
            refine ⟨slotOpt none, ?_, by rw [HZ.out], since_putObj _ (by (repeat (first | (with_reducible exact SinceOf.refl _) | (with_reducible assumption) | (with_reducible refine SinceOf.alloc ?_ _) | (with_reducible refine SinceOf.drew ?_) | (with_reducible refine SinceOf.drewN ?_ _) | (with_reducible refine SinceOf.later ?_ _) | (with_reducible refine SinceOf.further ?_ _) | (with_reducible refine SinceOf.setCell ?_ (by first | exact Nat.le_refl _ | (simp; done) | omega | (simp; omega)) _)))) (by omega)⟩
            simp [results, Try.results55, go_sem, slotOpt]

end Go.Proofs.Ytdcncalcncomoaa
