/- Layer 52: what 'on' computes. -/
import Derived.Test.YtpaojgfmffkodaaGreatLSch20
import Derived.Test.YtpaojgfmffkodaaGreatLHeap4
namespace Go.Proofs.YtpaojgfmffkodaaGreat
set_option linter.unusedVariables false
set_option linter.unusedSimpArgs false
open Go.RowKit Go.Sort
def insI (x : Int) : List Int → List Int
  | [] => [x]
  | y :: r => if x ≤ y then x :: y :: r else y :: insI x r
def sortI : List Int → List Int
  | [] => []
  | x :: r => insI x (sortI r)
theorem insI_perm (x : Int) : ∀ l, (insI x l).Perm (x :: l)
  | [] => List.Perm.refl _
  | y :: r => by
    unfold insI
    split
    · exact List.Perm.refl _
    · exact ((insI_perm x r).cons y).trans (List.Perm.swap x y r)
theorem sortI_perm : ∀ l, (sortI l).Perm l
  | [] => List.Perm.refl _
  | x :: r => (insI_perm x (sortI r)).trans ((sortI_perm r).cons x)
theorem insI_sorted (x : Int) : ∀ l, l.Pairwise (· ≤ ·) → (insI x l).Pairwise (· ≤ ·)
  | [], _ => by simp [insI]
  | y :: r, h => by
    unfold insI
    obtain ⟨h1, h2⟩ := List.pairwise_cons.1 h
    split
    · rename_i hxy
      refine List.pairwise_cons.2 ⟨fun z hz => ?_, h⟩
      rcases List.mem_cons.1 hz with rfl | hz
      · exact hxy
      · exact Int.le_trans hxy (h1 z hz)
    · rename_i hxy
      refine List.pairwise_cons.2 ⟨fun z hz => ?_, insI_sorted x r h2⟩
      rcases List.mem_cons.1 ((insI_perm x r).subset hz) with rfl | hz
      · omega
      · exact h1 z hz
theorem sortI_sorted : ∀ l, (sortI l).Pairwise (· ≤ ·)
  | [] => by simp [sortI]
  | x :: r => insI_sorted x _ (sortI_sorted r)
theorem drains_sort {L : List (Int × Int)} {l : List Int} (h : (L.map (·.1)).Perm l) : Drains L (sortI l) := ⟨sortI_sorted l, (sortI_perm l).trans h.symm⟩
def nextAt (s : ShopR) (m t : Int) : Int × Int := nextV (calAt s m).P (calAt s m).S (calAt s m).D t
def firstFit (s : ShopR) (L : List JobR) (l : List SlotR) (jb m : Int) : List Int → Option SlotR
  | [] => none
  | t :: r =>
    if (nextAt s m t).2 = 0 then
      if (finishAt s m (nextAt s m t).1 (jobAt L jb).dur).2 = 0 then
        if (validV s L (l ++ [⟨jb, m, (nextAt s m t).1, (finishAt s m (nextAt s m t).1 (jobAt L jb).dur).1⟩])).2 = 0 then some ⟨jb, m, (nextAt s m t).1, (finishAt s m (nextAt s m t).1 (jobAt L jb).dur).1⟩
        else firstFit s L l jb m r
      else none
    else none
def endsOf (b : Int) (l : List SlotR) : List Int := (l.filter fun y => decide (b < y.stop)).map (·.stop)
def onV (s : ShopR) (L : List JobR) (l : List SlotR) (jb m : Int) : Option SlotR :=
  match beginV s L jb m (jobAt L jb).rel l with
  | none => none
  | some b => firstFit s L l jb m (sortI (b :: endsOf b l))
def slotOpt (o : Option SlotR) : Value := match o with
  | some x => .tuple #[slotV x, .bool true]
  | none => .tuple #[slotV ⟨0, 0, 0, 0⟩, .bool false]
end Go.Proofs.YtpaojgfmffkodaaGreat
/- Layer 52: the walk of 'on'. -/
namespace Go.Proofs.YtpaojgfmffkodaaGreat
set_option linter.unusedVariables false
set_option linter.unusedSimpArgs false
open Go.RowKit Go.Sort Go.Shelf
attribute [local go_sem ↓] Go.wp_at_zero Go.wp_at_succ
attribute [local go_sem] Oper.semAt_some
def OnIx (res : Option SlotR) (w wl : World) (ga gb : Nat) : Code → List Int → World → Prop
  | .ret, _, W => ∃ x : SlotR, res = some x ∧ Below w.heap.size w W ∧ W.cell? ⟨ga, 0, none⟩ = some (.int .i64 x.job) ∧ W.cell? ⟨ga, 1, none⟩ = some (.int .i64 x.mach) ∧ W.cell? ⟨ga, 2, none⟩ = some (.int .i64 x.start) ∧ W.cell? ⟨ga, 3, none⟩ = some (.int .i64 x.stop) ∧ W.cell? ⟨gb, 0, none⟩ = some (.bool true)
  | .exit id, _, W => id = 2 ∧ res = none ∧ SinceOf wl W
  | _, _, _ => False
theorem onIx_local {res : Option SlotR} {w wl : World} {ga gb : Nat} (hw : w.heap.size ≤ wl.heap.size) (ha : ga < wl.heap.size) (hb : gb < wl.heap.size) (c : Code) : Local wl.heap.size (OnIx res w wl ga gb c) := by
  intro pre W W' h hbel
  cases c <;> try exact h
  case ret =>
    obtain ⟨x, h1, h2, h3, h4, h5, h6, h7⟩ := h
    exact ⟨x, h1, h2.trans (hbel.mono hw), (hbel.cell (p := ⟨ga, 0, none⟩) ha).trans h3, (hbel.cell (p := ⟨ga, 1, none⟩) ha).trans h4, (hbel.cell (p := ⟨ga, 2, none⟩) ha).trans h5, (hbel.cell (p := ⟨ga, 3, none⟩) ha).trans h6, (hbel.cell (p := ⟨gb, 0, none⟩) hb).trans h7⟩
  case exit id =>
    obtain ⟨h1, h2, h3⟩ := h
    exact ⟨h1, h2, SinceOf.of_below (h3.below.trans hbel)⟩
theorem endsOf_snoc (b : Int) {l : List SlotR} {k : Nat} (h : k < l.length) : endsOf b (l.take (k + 1)) = endsOf b (l.take k) ++ (if b < l[k].stop then [l[k].stop] else []) := by
  unfold endsOf
  rw [List.take_succ_eq_append_getElem h, List.filter_append, List.map_append]
  congr 1
  by_cases hb : b < l[k].stop <;> simp [hb]
theorem infoSlot2 : (Tryz.prog.info? 76).map (fun i => (i.zero, i.size, i.bytes)) = some (some (.agg #[.int .i64 0, .int .i64 0, .int .i64 0, .int .i64 0]), 4, 32) := by kernel_rfl
@[go_sem] theorem eql_slots_nil (w : World) (A : Option Addr) (n c n' c' : Nat) : (binOp .eql 39 (.slice A n c) (.slice none n' c')).run Tryz.prog w = .ok (.bool A.isNone) w :=
  Lib.run_eql_slice_nil w _ _ A n c n' c' Tryz.underlying39
theorem cloneS_any (A : Option Addr) (c : Nat) (l : List SlotR) (w : World) (hl : IsSlots w A c l) (hn : l.length * 32 ≤ 140737488355328) :
    Calls Tryz.prog 51 #[.slice A l.length c] w fun e w' => ∃ A' c', e = .returned (.slice A' l.length c') ∧ Owns encS 4 w.heap.size 76 w' A' c' l ∧ SinceOf w w' := by
  obtain ⟨i0, hi, hz0, hz1, hz2⟩ := info_parts infoSlot2
  cases A with
  | none =>
    obtain rfl : c = 0 := hl.1 rfl
    have hl0 : l = [] := by
      rcases hl.2 with h | ⟨g, off, h, _⟩
      · exact h
      · cases h
    subst hl0
    go_enter Tryz.func51, Tryz.ntmps51
    go_wp2_with fail
    go_returns
    exact ⟨none, 0, rfl, Owns.nil _ _ _ _ _, SinceOf.refl _⟩
  | some ad =>
    go_enter Tryz.func51, Tryz.ntmps51
    go_wp2_with (at_builtin; refine wpList_append_row rfl (.tmp 5) (.tmp 6) 39 rfl encS_len (by omega) encS_one i0 _ 32 Tryz.underlying39 hi hz0 hz1 hz2 rfl (l := []) (A := some ⟨w.heap.size, 0, none⟩) (c := 0) (base := w.heap.size) rfl (World.ownsRow_lit w #[] 0 (Nat.le_refl _) (Nat.zero_le _) rfl) (m := l) rfl (hl.of (SinceOf.alloc (SinceOf.refl w) _)) (by unfold maxLen; simp; omega) (by simpa using hn) (by simp) ?_; intro A' c' w' hown hgrow _)
    go_returns
    exact ⟨A', c', rfl, hown, ((SinceOf.refl w).alloc _).grown hgrow (by intro k hk; simp [blockOf] at hk; omega)⟩
@[go_sem] theorem cell_putObj (w : World) (D n i : Nat) (o : Obj) [h : Nonempty (Apart n D)] : (w.putObj D o).cell? ⟨n, i, none⟩ = w.cell? ⟨n, i, none⟩ :=
  h.elim fun h => World.cell?_of_block (World.putObj_heap_other h.ne)
theorem since_putObj {w V : World} {D : Nat} (o : Obj) (h : SinceOf w V) (hD : w.heap.size ≤ D) : SinceOf w (V.putObj D o) :=
  SinceOf.of_below (h.below.trans (below_putObj V o h.size hD))
theorem heap_set5 (w : World) (a b D : Nat) (ha : D ≠ a) (hb : D ≠ b) (u0 u1 u2 u3 u4 : Value) : (((((w.setCell ⟨a, 0, none⟩ u0).setCell ⟨a, 1, none⟩ u1).setCell ⟨a, 2, none⟩ u2).setCell ⟨a, 3, none⟩ u3).setCell ⟨b, 0, none⟩ u4).heap[D]? = w.heap[D]? := by
  rw [Below.heap_setCell _ _ _ _ hb, Below.heap_setCell _ _ _ _ ha, Below.heap_setCell _ _ _ _ ha, Below.heap_setCell _ _ _ _ ha, Below.heap_setCell _ _ _ _ ha]
theorem since_fold {a : World} {o : Obj} (y : Since (a.alloc o).drew) : ∃ z : Since a, z.wd = y.wd :=
  ⟨⟨y.wd, ((Below.refl a.heap.size a).alloc (Nat.le_refl _) o).drew.trans (y.below.mono (by show a.heap.size ≤ (a.alloc o).heap.size; simp))⟩, rfl⟩
theorem hnew2_any (w : World) : Calls Tryz.prog 157 #[lessF] w fun e w' => ∃ g B, e = .returned (.pointer (some ⟨g, 0, none⟩)) ∧ HeapIs w' B g [] 0 ∧ w.heap.size ≤ B ∧ ∃ x : Since w, w' = x.wd :=
  (hnew_any w).mono fun e w' ⟨he, hh, hl⟩ => ⟨_, _, he, hh, Nat.le_refl _, hl.since⟩
theorem push2_any (w0 : World) (B g : Nat) (L : List (Int × Int)) (next x : Int) (y : Since w0) (h : HeapIs y.wd B g L next) (hB : w0.heap.size ≤ B) (hord : HeapOrd L) (hL : L.length < 1099511627776) (hn0 : 0 ≤ next) (hn1 : next < 1099511627776) :
    Calls Tryz.prog 159 #[.pointer (some ⟨g, 0, none⟩), .int .i64 x] y.wd fun e w' => e = .returned (.tuple #[]) ∧ ∃ z : Since w0, w' = z.wd ∧ ∃ L', HeapIs z.wd B g L' (next + 1) ∧ HeapOrd L' ∧ L'.Perm ((x, next) :: L) :=
  (push_any B g L next x y.wd h hord hL hn0 hn1).mono fun e w' ⟨he, L', h1, h2, h3, h4⟩ => ⟨he, ⟨w', y.below.trans (h4.mono hB)⟩, rfl, L', h1, h2, h3⟩
set_option maxRecDepth 100000 in
set_option maxHeartbeats 8000000 in
theorem on_any (s : ShopR) (A : Option Addr) (c : Nat) (L : List JobR) (B : Option Addr) (d : Nat) (l : List SlotR) (jb m : Nat) (w : World) (hs : IsShop w s) (h : IsJobs w A c L) (gp : GoodP s L) (hord : ∀ j ∈ L, 0 ≤ j.ord ∧ j.ord ≤ 1000) (hl : IsSlots w B d l) (hll : l.length < 1073741824) (hn : NamedS s L l) (hjb : jb < L.length) (hm : m < s.cals.length) :
    Yields Tryz.prog 126 #[shopV s, .slice A L.length c, .slice B l.length d, .int .i64 jb, .int .i64 m] w (slotOpt (onV s L l jb m)) := by
  apply Yields.ret
  have BG := fun W (hW : SinceOf w W) => beginning_any s A c L B d l jb m W (hs.of hW) (h.of hW) gp (hl.of hW) (by omega) hn hjb hm
  have hcl := hs.cals.len
  have hjl := h.len
  have hka := hs.cals.all _ (List.getElem_mem hm)
  have NX := fun t W hW => next_any (w := W) t (hka.of hW)
  have FI := fun t k W hW => finish_any (w := W) t k (hka.of hW)
  have en : ∀ t, nextAt s m t = nextV s.cals[m].P s.cals[m].S s.cals[m].D t := fun t => by unfold nextAt; rw [calAt_at hm]
  have ef : ∀ t k, finishAt s m t k = finishV s.cals[m].P s.cals[m].S s.cals[m].D t k := fun t k => by unfold finishAt; rw [calAt_at hm]
  obtain ⟨gc, oc, hAc, hrc⟩ := hs.cals.row.at_ (by omega)
  obtain ⟨gj, oj, hAj, hrj⟩ := h.row.at_ (by omega)
  have hOc := hrc.there
  have hOj := hrj.there
  have k0 := hrc.k0 m hm
  have k1 := hrc.k1 m hm
  have k2 := hrc.k2 m hm
  have i1 := hrj.j1 jb hjb
  have ed : (jobAt L jb).dur = L[jb].dur := by rw [jobAt_at hjb]
  obtain ⟨res, hres⟩ : ∃ v, v = onV s L l jb m := ⟨_, rfl⟩
  rw [← hres]
  unfold onV at hres
  obtain ⟨sA, sc, cals, sB, sd, R, most⟩ := s
  simp only at *
  subst hAc hAj
  have H := Lib.hid (And.intro hs (And.intro h (And.intro gp (And.intro hord (And.intro hl (And.intro hn (And.intro en (And.intro ef (And.intro ed NX)))))))))
  generalize cals[m] = K at *
  generalize beginV _ L jb m (jobAt L jb).rel l = bv at *
  have HF := Lib.hid FI
  clear hs h gp hord hl hn en ef ed hka hrc hrj NX FI
  refine (callsIn_wide (n := 3)).1 ?_
  refine callsIn_of_wp_marks Tryz.func126 rfl trivial ?_ rfl
  refine wpIn_wide.2 ?_
  simp only [Tryz.ntmps126, List.size_toArray, List.length_cons, List.length_nil, Nat.reduceAdd, Nat.reduceSub, Array.replicate_succ, Array.replicate_zero, List.push_toArray, List.append_toArray, List.nil_append, List.cons_append]
  cases bv with
  | none =>
    have HR := Lib.hid hres
    clear hres
    go_wp2_with fail
    (with_reducible refine (BG _ Sx).calls.mono ?_)
    rintro e _ ⟨rfl, x1, rfl⟩
    unfold beginR
    go_wp2_with fail
    refine ⟨slotOpt none, ?_, by rw [HR.out], Sx⟩
    simp [results, Tryz.results126, go_sem, slotOpt]
  | some b =>
    have HR := Lib.hid hres
    clear hres
    go_wp2_with fail
    (with_reducible refine (BG _ Sx).calls.mono ?_)
    rintro e _ ⟨rfl, x1, rfl⟩
    unfold beginR
    go_wp2_with fail
    refine (hnew2_any _).mono ?_
    rintro e _ ⟨gH, gB, rfl, hH, hB, y1, rfl⟩
    have HH := Lib.hid (And.intro hH hB)
    clear BG hH hB
    go_wp2_with fail
    (with_reducible refine (push2_any _ gB gH [] 0 b y1 HH.out.1 HH.out.2 HeapOrd.nil (by decide) (by decide) (by decide)).mono ?_)
    rintro e _ ⟨rfl, y2, rfl, L1, hh1, ho1, hp1⟩
    have H1 := Lib.hid (And.intro hh1 (And.intro ho1 hp1))
    clear hh1 ho1 hp1
    go_wp2_with fail
    go_loopg [48] l.length (fun gas s48 wr => ∃ (k : Nat) (z : Since (x1.wd.alloc (.cells #[.int .i64 K.P, .slice K.A K.S.length K.c, .slice K.B K.D.length K.d] 83))) (L2 : List (Int × Int)), k ≤ l.length ∧ l.length - k ≤ gas ∧ s48 = .int .i64 k ∧ wr = z.wd ∧ HeapIs z.wd gB gH L2 L2.length ∧ HeapOrd L2 ∧ L2.length ≤ k + 1 ∧ (L2.map (·.1)).Perm (b :: endsOf b (l.take k)))
    case atStart =>
      refine ⟨0, y2, L1, by omega, by omega, rfl, rfl, ?_, H1.out.2.1, ?_, ?_⟩
      · have := H1.out.2.2.length_eq
        simp at this
        rw [this]; exact H1.out.1
      · have := H1.out.2.2.length_eq
        simp at this ⊢; omega
      · have := H1.out.2.2.map (·.1)
        simpa [endsOf] using this
    case round =>
      obtain ⟨k, z, L2, hk, hgas, rfl, rfl, hh2, ho2, hl2, hp2⟩ := hrel
      have HG := Lib.hid (And.intro hh2 (And.intro ho2 (And.intro hl2 hp2)))
      clear hh2 ho2 hl2 hp2
      by_cases hlt : k < l.length
      · have hsn := endsOf_snoc b hlt
        have hrl := H.out.2.2.2.2.1.of (w' := z.wd) Sx
        obtain ⟨gs, os, rfl, hrs⟩ := hrl.at_ (by omega)
        have hOs := hrs.there
        have s0 := hrs.s0 k hlt
        have s1 := hrs.s1 k hlt
        have s2 := hrs.s2 k hlt
        have s3 := hrs.s3 k hlt
        generalize l[k].job = xj at *
        generalize l[k].mach = xm at *
        generalize l[k].start = xs at *
        generalize l[k].stop = xe at *
        clear hrs hrl
        by_cases hbx : b < xe
        · rw [if_pos hbx] at hsn
          have HN := Lib.hid hsn
          clear hsn
          have hd : decide (b < xe) = true := by simpa using hbx
          go_wp2_with fail
          (with_reducible refine (push2_any _ gB gH L2 L2.length xe ⟨_, z.below.alloc z.size (.cells #[.int .i64 xj, .int .i64 xm, .int .i64 xs, .int .i64 xe] 76)⟩ (HG.out.1.of ((SinceOf.refl _).alloc _)) HH.out.2 HG.out.2.1 (by have := HG.out.2.2.1; omega) (by omega) (by have := HG.out.2.2.1; omega)).mono ?_)
          rintro e _ ⟨rfl, y3, rfl, L3, hh3, ho3, hp3⟩
          have HE := Lib.hid (And.intro hh3 (And.intro ho3 hp3))
          clear hh3 ho3 hp3
          go_wp2_with fail
          go_roundg (l.length - (k + 1))
          case measure => omega
          case rel =>
            have hlen := HE.out.2.2.length_eq
            simp at hlen
            refine ⟨k + 1, y3, L3, by omega, by omega, by go_num, rfl, ?_, HE.out.2.1, by have := HG.out.2.2.1; omega, ?_⟩
            · rw [hlen]; exact HE.out.1
            · rw [HN.out]
              refine (HE.out.2.2.map (·.1)).trans ?_
              refine ((HG.out.2.2.2).cons xe).trans ?_
              refine (List.Perm.swap b xe _).trans (List.Perm.cons b ?_)
              exact (List.perm_append_singleton xe _).symm
        · rw [if_neg hbx] at hsn
          have HN := Lib.hid hsn
          clear hsn
          have hd : decide (b < xe) = false := by simpa using hbx
          go_wp2_with fail
          go_roundg (l.length - (k + 1))
          case measure => omega
          case rel => exact ⟨k + 1, ⟨_, z.below.alloc z.size _⟩, L2, by omega, by omega, by go_num, rfl, HG.out.1.of ((SinceOf.refl _).alloc _), HG.out.2.1, by have := HG.out.2.2.1; omega, by rw [HN.out, List.append_nil]; exact HG.out.2.2.2⟩
      · have hkl : k = l.length := by omega
        have hpe := HG.out.2.2.2
        rw [hkl, List.take_length] at hpe
        have hdr := drains_sort hpe
        have HD := Lib.hid hdr
        clear hpe hdr hkl
        go_wp2_with fail
        refine (hall_any gH _).mono ?_
        rintro e _ ⟨rfl, rfl⟩
        go_wp2_with fail
        obtain ⟨wl, hwl⟩ : ∃ wl, wl = z.wd.alloc (.cells #[.pointer (some ⟨gH, 0, none⟩)] 210) := ⟨_, rfl⟩
        have hsl : SinceOf z.wd wl := by rw [hwl]; exact (SinceOf.refl _).alloc _
        have hzw : SinceOf w z.wd := Sx
        have hwz : w.heap.size + 8 ≤ z.wd.heap.size := by have h8 := z.size; have h9 := x1.size; simp at h8 h9; omega
        refine (wpIn_wide (n := 3)).1 ?_
        refine wpIn_rangeFunc_local rfl (by decide) (gf := 173) (lb := #[.pointer (some ⟨z.wd.heap.size, 0, none⟩)]) rfl trivial (enters_of Tryz.func173 (by kernel_rfl) rfl)
          (hseq_any gB gH z.wd.heap.size L2 L2.length _ _ (HG.out.1.of ((SinceOf.refl _).alloc _)) HG.out.2.1 (by have := HG.out.2.2.1; omega) HD.out (by simp) inferInstance _) (fun _ => rfl)
          (fun pre W => SinceOf (z.wd.alloc (.cells #[.pointer (some ⟨gH, 0, none⟩)] 210)) W ∧ ∃ post, sortI (b :: endsOf b l) = pre ++ post ∧ res = firstFit ⟨some ⟨gc, oc, none⟩, sc, cals, sB, sd, R, most⟩ L l jb m post)
          (OnIx res w (z.wd.alloc (.cells #[.pointer (some ⟨gH, 0, none⟩)] 210)) (w.heap.size + 1 + 1 + 1 + 1 + 1) (w.heap.size + 1 + 1 + 1 + 1 + 1 + 1))
          (fun pre W W' hi hb => ⟨SinceOf.of_below (hi.1.below.trans hb), hi.2⟩) (fun c => onIx_local (by simp; omega) (by simp; omega) (by simp; omega) c)
          ⟨SinceOf.refl _, _, rfl, HR.out⟩ ?round ?done ?stop
        case round =>
          rintro lp pre t post W hxs hsz ⟨⟨y4, rfl⟩, post', hxs', hres⟩
          apply Exists.intro
          constructor
          · intro K hK
            gi_wp2_with fail
            exact hK
          · rintro W2 hsz2 ⟨⟨y5, rfl⟩, -⟩
            rw [hxs] at hxs'
            have hpp := List.append_cancel_left hxs'
            rw [← hpp, firstFit, H.out.2.2.2.2.2.2.1 t] at hres
            simp only [H.out.2.2.2.2.2.2.2.1] at hres
            rw [H.out.2.2.2.2.2.2.2.2.1] at hres
            have hz5 : SinceOf w y5.wd := Sx
            have NT := fun W hW => H.out.2.2.2.2.2.2.2.2.2 t W hW
            have FT := fun n W hW => HF.out n L[jb].dur W hW
            obtain ⟨sx, hsx⟩ : ∃ s : ShopR, s = ⟨some ⟨gc, oc, none⟩, sc, cals, sB, sd, R, most⟩ := ⟨_, rfl⟩
            simp only [← hsx] at hres
            unfold pairV at NT FT
            generalize nextV K.P K.S K.D t = nv at *
            obtain ⟨n1, n2⟩ := nv
            simp only at hres NT
            have FT1 := FT n1
            clear FT
            generalize finishV K.P K.S K.D n1 L[jb].dur = fv at *
            obtain ⟨f1, f2⟩ := fv
            simp only at hres FT1
            generalize L[jb].dur = du at *
            by_cases hn2 : n2 = 0
            · subst hn2
              rw [if_pos rfl] at hres
              have HE := Lib.hid hres
              have HSX := Lib.hid (And.intro hsx (And.intro hpp hxs))
              clear hres hxs hxs' hpp hsx
              gi_wp2_with fail
              refine ⟨trivial, ?_⟩
              refine (CallsIn.inRound lp (callsIn_wide.2 (NT _ Sx).calls)).mono ?_
              rintro e _ ⟨rfl, x6, rfl⟩
              gi_wp2_with fail
              refine region_in_round (by kernel_rfl) (by kernel_rfl) (S := fun W => W.cell? ⟨x1.wd.heap.size, 0, none⟩ = some (.int .i64 K.P) ∧ W.cell? ⟨x1.wd.heap.size, 1, none⟩ = some (.slice K.A K.S.length K.c) ∧ W.cell? ⟨x1.wd.heap.size, 2, none⟩ = some (.slice K.B K.D.length K.d) ∧ W.cell? ⟨w.heap.size + 1, 0, none⟩ = some (.slice (some ⟨gj, oj, none⟩) L.length c) ∧ W.cell? ⟨w.heap.size + 1 + 1 + 1, 0, none⟩ = some (.int .i64 jb) ∧ W.cell? ⟨gj, oj + jb * 6 + 1, none⟩ = some (.int .i64 du)) ?_ (fun hHeld => ?_)
              · simp [go_sem, i1]
              refine take_at (i := 0) (d := some 73) (v := ?_) rfl rfl (by kernel_rfl) (by kernel_rfl) (by kernel_rfl) (fun _ _ _ h => h) (Or.inl ⟨by rfl, ?_⟩) (by assumption) ?_
              rotate_left 1
              · (intro w hSw; (try dsimp only at hSw); go_simp) <;> (with_reducible rfl)
              (try simp only [Act.put, List.setIfInBounds_toArray, List.set_cons_zero, List.set_cons_succ])
              refine take_at (i := 1) (d := some 74) (v := ?_) rfl rfl (by kernel_rfl) (by kernel_rfl) (by kernel_rfl) (fun _ _ _ h => h) (Or.inl ⟨by rfl, ?_⟩) (by assumption) ?_
              rotate_left 1
              · (intro w hSw; (try dsimp only at hSw); go_simp) <;> (with_reducible rfl)
              (try simp only [Act.put, List.setIfInBounds_toArray, List.set_cons_zero, List.set_cons_succ])
              refine take_at (i := 2) (d := some 75) (v := ?_) rfl rfl (by kernel_rfl) (by kernel_rfl) (by kernel_rfl) (fun _ _ _ h => h) (Or.inl ⟨by rfl, ?_⟩) (by assumption) ?_
              rotate_left 1
              · (intro w hSw; (try dsimp only at hSw); go_simp) <;> (with_reducible rfl)
              (try simp only [Act.put, List.setIfInBounds_toArray, List.set_cons_zero, List.set_cons_succ])
              refine take_at (i := 3) (d := some 76) (v := ?_) rfl rfl (by kernel_rfl) (by kernel_rfl) (by kernel_rfl) (fun _ _ _ h => h) (Or.inl ⟨by rfl, ?_⟩) (by assumption) ?_
              rotate_left 1
              · (intro w hSw; (try dsimp only at hSw); go_simp) <;> (with_reducible rfl)
              (try simp only [Act.put, List.setIfInBounds_toArray, List.set_cons_zero, List.set_cons_succ])
              refine take_at (i := 4) (d := some 77) (v := ?_) rfl rfl (by kernel_rfl) (by kernel_rfl) (by kernel_rfl) (fun _ _ _ h => h) (Or.inl ⟨by rfl, ?_⟩) (by assumption) ?_
              rotate_left 1
              · (intro w hSw; (try dsimp only at hSw); go_simp) <;> (with_reducible rfl)
              (try simp only [Act.put, List.setIfInBounds_toArray, List.set_cons_zero, List.set_cons_succ])
              refine take_at (i := 5) (d := some 78) (v := ?_) rfl rfl (by kernel_rfl) (by kernel_rfl) (by kernel_rfl) (fun _ _ _ h => h) (Or.inl ⟨by rfl, ?_⟩) (by assumption) ?_
              rotate_left 1
              · (intro w hSw; (try dsimp only at hSw); go_simp) <;> (with_reducible rfl)
              (try simp only [Act.put, List.setIfInBounds_toArray, List.set_cons_zero, List.set_cons_succ])
              refine take_at (i := 6) (d := some 79) (v := ?_) rfl rfl (by kernel_rfl) (by kernel_rfl) (by kernel_rfl) (fun _ _ _ h => h) (Or.inl ⟨by rfl, ?_⟩) (by assumption) ?_
              rotate_left 1
              · (intro w hSw; (try dsimp only at hSw); go_simp) <;> (with_reducible rfl)
              (try simp only [Act.put, List.setIfInBounds_toArray, List.set_cons_zero, List.set_cons_succ])
              refine step_at (i := 7) (by kernel_rfl) rfl (fun K' hK => ?_)
              go_simp
              (with_reducible refine (FT1 _ Sx).calls.mono ?_)
              rintro e _ ⟨rfl, x7, rfl⟩
              go_wp2_with fail
              refine hK.out _ _ ?_ (fun hHeld2 => ?_)
              · simp [go_sem, i1]
              clear hK K' hHeld
              refine take_at (i := 8) (d := some 72) (v := ?_) rfl rfl (by kernel_rfl) (by kernel_rfl) (by kernel_rfl) (fun _ _ _ h => h) (Or.inl ⟨by rfl, ?_⟩) (by assumption) ?_
              rotate_left 1
              · (intro w hSw; (try dsimp only at hSw); go_simp) <;> (with_reducible rfl)
              (try simp only [Act.put, List.setIfInBounds_toArray, List.set_cons_zero, List.set_cons_succ])
              refine take_at (i := 9) (d := some 81) (v := ?_) rfl rfl (by kernel_rfl) (by kernel_rfl) (by kernel_rfl) (fun _ _ _ h => h) (Or.inl ⟨by rfl, ?_⟩) (by assumption) ?_
              rotate_left 1
              · (intro w hSw; (try dsimp only at hSw); go_simp) <;> (with_reducible rfl)
              (try simp only [Act.put, List.setIfInBounds_toArray, List.set_cons_zero, List.set_cons_succ])
              refine take_at (i := 10) (d := some 82) (v := ?_) rfl rfl (by kernel_rfl) (by kernel_rfl) (by kernel_rfl) (fun _ _ _ h => h) (Or.inl ⟨by rfl, ?_⟩) (by assumption) ?_
              rotate_left 1
              · (intro w hSw; (try dsimp only at hSw); go_simp) <;> (with_reducible rfl)
              (try simp only [Act.put, List.setIfInBounds_toArray, List.set_cons_zero, List.set_cons_succ])
              refine take_at (i := 11) (d := some 21) (v := ?_) rfl rfl (by kernel_rfl) (by kernel_rfl) (by kernel_rfl) (fun _ _ _ h => h) (Or.inl ⟨by rfl, ?_⟩) (by assumption) ?_
              rotate_left 1
              · (intro w hSw; (try dsimp only at hSw); go_simp) <;> (with_reducible rfl)
              (try simp only [Act.put, List.setIfInBounds_toArray, List.set_cons_zero, List.set_cons_succ])
              refine take_at (i := 12) (d := some 20) (v := ?_) rfl rfl (by kernel_rfl) (by kernel_rfl) (by kernel_rfl) (fun _ _ _ h => h) (Or.inl ⟨by rfl, ?_⟩) (by assumption) ?_
              rotate_left 1
              · (intro w hSw; (try dsimp only at hSw); go_simp) <;> (with_reducible rfl)
              (try simp only [Act.put, List.setIfInBounds_toArray, List.set_cons_zero, List.set_cons_succ])
              refine wpAnyH_done (by kernel_rfl) (Calm.normal ?_) _
              clear hHeld2
              by_cases hf2 : f2 = 0
              · subst hf2
                have hE3 := HE.out
                rw [if_pos rfl] at hE3
                obtain ⟨x, hx⟩ : ∃ x : SlotR, x = ⟨jb, m, n1, f1⟩ := ⟨_, rfl⟩
                rw [← hx] at hE3
                have VA := fun A' c' (W : World) (hW : SinceOf w W) (hsl : IsSlots W A' c' (l ++ [x])) (hc : (l ++ [x]).length ≤ c') => validS_any _ _ c L A' c' (l ++ [x]) W (H.out.1.of hW) (H.out.2.1.of hW) H.out.2.2.1 H.out.2.2.2.1 hsl (by simp; omega) hc
                have ev : validV ⟨some ⟨gc, oc, none⟩, sc, cals, sB, sd, R, most⟩ L (l ++ [x]) = validV sx L (l ++ [x]) := by rw [HSX.out.1]
                rw [ev] at VA
                generalize validV sx L (l ++ [x]) = vv at *
                obtain ⟨v1, v2⟩ := vv
                simp only at hE3 VA
                have CS := fun (W : World) (hW : SinceOf w W) => cloneS_any B d l W (H.out.2.2.2.2.1.of hW) (by omega)
                have HE3 := Lib.hid (And.intro hE3 hx)
                have HVA := Lib.hid VA
                have HCS := Lib.hid CS
                clear hE3 hx VA ev CS HE NT FT1
                gi_wp2_with fail
                obtain ⟨i0, hi, hz0, hz1, hz2⟩ := info_parts infoSlot2
                have HI := Lib.hid (And.intro hi (And.intro hz0 (And.intro hz1 hz2)))
                clear hi hz0 hz1 hz2
                obtain ⟨WB, hWB⟩ : ∃ W, W = (x7.wd.alloc (.cells #[.int .i64 jb, .int .i64 m, .int .i64 n1, .int .i64 f1] 76)).heap.size := ⟨_, rfl⟩
                have HWB := Lib.hid hWB
                clear hWB
                refine region_in_round (by kernel_rfl) (by kernel_rfl) (S := fun W => W.cell? ⟨w.heap.size, 0, none⟩ = some (.slice (some ⟨gc, oc, none⟩) cals.length sc) ∧ W.cell? ⟨w.heap.size, 1, none⟩ = some (.slice sB R.length sd) ∧ W.cell? ⟨w.heap.size, 2, none⟩ = some (.int .i64 most) ∧ W.cell? ⟨w.heap.size + 1, 0, none⟩ = some (.slice (some ⟨gj, oj, none⟩) L.length c) ∧ W.cell? ⟨w.heap.size + 1 + 1, 0, none⟩ = some (.slice B l.length d) ∧
                  W.cell? ⟨x7.wd.heap.size, 0, none⟩ = some (.int .i64 jb) ∧ W.cell? ⟨x7.wd.heap.size, 1, none⟩ = some (.int .i64 m) ∧ W.cell? ⟨x7.wd.heap.size, 2, none⟩ = some (.int .i64 n1) ∧ W.cell? ⟨x7.wd.heap.size, 3, none⟩ = some (.int .i64 f1)) ?_ (fun hHeld => ?_)
                · simp [go_sem]
                refine take_at (i := 0) (d := some 91) (v := ?_) rfl rfl (by kernel_rfl) (by kernel_rfl) (by kernel_rfl) (fun _ _ _ h => h) (Or.inl ⟨by rfl, ?_⟩) (by assumption) ?_
                rotate_left 1
                · (intro w hSw; (try dsimp only at hSw); go_simp) <;> (with_reducible rfl)
                (try simp only [Act.put, List.setIfInBounds_toArray, List.set_cons_zero, List.set_cons_succ])
                refine take_at (i := 1) (d := some 92) (v := ?_) rfl rfl (by kernel_rfl) (by kernel_rfl) (by kernel_rfl) (fun _ _ _ h => h) (Or.inl ⟨by rfl, ?_⟩) (by assumption) ?_
                rotate_left 1
                · (intro w hSw; (try dsimp only at hSw); go_simp) <;> (with_reducible rfl)
                (try simp only [Act.put, List.setIfInBounds_toArray, List.set_cons_zero, List.set_cons_succ])
                refine take_at (i := 2) (d := some 93) (v := ?_) rfl rfl (by kernel_rfl) (by kernel_rfl) (by kernel_rfl) (fun _ _ _ h => h) (Or.inl ⟨by rfl, ?_⟩) (by assumption) ?_
                rotate_left 1
                · (intro w hSw; (try dsimp only at hSw); go_simp) <;> (with_reducible rfl)
                (try simp only [Act.put, List.setIfInBounds_toArray, List.set_cons_zero, List.set_cons_succ])
                refine take_at (i := 4) (d := some 95) (v := ?_) rfl rfl (by kernel_rfl) (by kernel_rfl) (by kernel_rfl) (fun _ _ _ h => h) (Or.inl ⟨by rfl, ?_⟩) (by assumption) ?_
                rotate_left 1
                · (intro w hSw; (try dsimp only at hSw); go_simp) <;> (with_reducible rfl)
                (try simp only [Act.put, List.setIfInBounds_toArray, List.set_cons_zero, List.set_cons_succ])
                refine wpAnyH_ready (rs := [3, 5]) (by kernel_rfl) (by simp) (AllReadyH.cons rfl (fun K' hK => ?_) (AllReadyH.cons rfl (fun K' hK => ?_) AllReadyH.nil))
                all_goals go_simp
                all_goals first
                  | ((with_reducible refine (HCS.out _ Sx).mono ?_)
                     rintro e _ ⟨A9, c9, rfl, ho9, ⟨x9, rfl⟩⟩
                     go_wp2_with fail
                     refine hK.out _ _ (by simp [go_sem]) (fun hHeld2 => ?_)
                     clear hK K' hHeld
                     refine step_at (i := 5) (by kernel_rfl) rfl (fun K' hK => ?_)
                     go_simp
                     refine hK.out _ _ (by simp [go_sem]) (fun hHeld3 => ?_)
                     clear hK K' hHeld2
                     have hm9 := rowS_at x9.wd x9.wd.heap.size ⟨jb, m, n1, f1⟩ 76 rfl
                     have ho10 : Owns encS 4 (x7.wd.alloc (.cells #[.int .i64 jb, .int .i64 m, .int .i64 n1, .int .i64 f1] 76)).heap.size 76 (x9.wd.alloc (.cells #[.int .i64 jb, .int .i64 m, .int .i64 n1, .int .i64 f1] 76)) A9 c9 l := ho9.alloc _
                     obtain ⟨x10, hx10⟩ : ∃ z : Since (x7.wd.alloc (.cells #[.int .i64 jb, .int .i64 m, .int .i64 n1, .int .i64 f1] 76)), z.wd = x9.wd.alloc (.cells #[.int .i64 jb, .int .i64 m, .int .i64 n1, .int .i64 f1] 76) := ⟨⟨_, ((Below.refl _ _).drew.trans x9.below).alloc x9.size _⟩, rfl⟩
                     rw [← hx10] at hm9 ho10 hHeld3
                     rw [← hx10]
                     generalize x9.wd.heap.size = g10 at *
                     clear ho9 hx10)
                  | (refine hK.out _ _ (by simp [go_sem]) (fun hHeld2 => ?_)
                     clear hK K' hHeld
                     refine step_at (i := 3) (by kernel_rfl) rfl (fun K' hK => ?_)
                     go_simp
                     (with_reducible refine (HCS.out _ Sx).mono ?_)
                     rintro e _ ⟨A9, c9, rfl, ho9, ⟨x9, rfl⟩⟩
                     go_wp2_with fail
                     refine hK.out _ _ (by simp [go_sem]) (fun hHeld3 => ?_)
                     clear hK K' hHeld2
                     have hm9 := (rowS_at (x7.wd.alloc (.cells #[.int .i64 jb, .int .i64 m, .int .i64 n1, .int .i64 f1] 76)).drew _ ⟨jb, m, n1, f1⟩ 76 rfl).since x9
                     have ho10 : Owns encS 4 (x7.wd.alloc (.cells #[.int .i64 jb, .int .i64 m, .int .i64 n1, .int .i64 f1] 76)).heap.size 76 x9.wd A9 c9 l := ho9.base_le (by simp)
                     obtain ⟨x10, hx10⟩ := since_fold x9
                     rw [← hx10] at hm9 ho10 hHeld3
                     rw [← hx10]
                     rw [show (x7.wd.alloc (.cells #[.int .i64 jb, .int .i64 m, .int .i64 n1, .int .i64 f1] 76)).drew.heap.size = x7.wd.heap.size + 1 from by simp] at hm9
                     generalize x7.wd.heap.size + 1 = g10 at *
                     clear ho9 hx10)
                all_goals
                  obtain ⟨hi, hz0, hz1, hz2⟩ := HI.out
                  refine step_at (i := 6) (by kernel_rfl) rfl (fun K' hK => ?_)
                  refine step_append_row rfl (.tmp 94) (.tmp 96) 39 rfl encS_len (by omega) encS_one i0 _ 32 Tryz.underlying39 hi hz0 hz1 hz2 rfl (l := l) (A := A9) (c := c9) (base := (x7.wd.alloc (.cells #[.int .i64 jb, .int .i64 m, .int .i64 n1, .int .i64 f1] 76)).heap.size) rfl ho10 (m := [⟨jb, m, n1, f1⟩]) rfl hm9 (by unfold maxLen; simp; omega) (by simp; omega) x10.size ?_
                  intro A11 c11 w11 hown11 hgr11 hbl11
                  obtain ⟨x11, rfl⟩ := (SinceOf.grown (w := (x7.wd.alloc (.cells #[.int .i64 jb, .int .i64 m, .int .i64 n1, .int .i64 f1] 76))) ⟨x10, rfl⟩ hgr11 (fun q hq => (ho10.below q hq).1))
                  refine hK.out _ _ (by simp [go_sem]) (fun hHeld4 => ?_)
                  clear hK K' hHeld3 hi hz0 hz1 hz2
                  have hcap := hown11.le_cap
                  have VB := HVA.out A11 c11
                  rw [HE3.out.2] at VB
                  have V1 := VB x11.wd Sx (hown11.isRow encS_len) hcap
                  rw [show (l ++ [(⟨jb, m, n1, f1⟩ : SlotR)]).length = l.length + 1 from by simp] at V1
                  clear VB hcap hbl11 hgr11 hm9 ho10
                  refine step_at (i := 7) (by kernel_rfl) rfl (fun K' hK => ?_)
                  go_simp
                  (with_reducible refine V1.calls.mono ?_)
                  rintro e _ ⟨rfl, x12, rfl⟩
                  go_wp2_with fail
                  refine hK.out _ _ (by simp [go_sem]) (fun hHeld5 => ?_)
                  clear hK K' hHeld4 V1
                  refine take_at (i := 8) (d := some 90) (v := ?_) rfl rfl (by kernel_rfl) (by kernel_rfl) (by kernel_rfl) (fun _ _ _ h => h) (Or.inl ⟨by rfl, ?_⟩) (by assumption) ?_
                  rotate_left 1
                  · (intro w hSw; (try dsimp only at hSw); go_simp) <;> (with_reducible rfl)
                  (try simp only [Act.put, List.setIfInBounds_toArray, List.set_cons_zero, List.set_cons_succ])
                  refine take_at (i := 9) (d := some 99) (v := ?_) rfl rfl (by kernel_rfl) (by kernel_rfl) (by kernel_rfl) (fun _ _ _ h => h) (Or.inl ⟨by rfl, ?_⟩) (by assumption) ?_
                  rotate_left 1
                  · (intro w hSw; (try dsimp only at hSw); go_simp) <;> (with_reducible rfl)
                  (try simp only [Act.put, List.setIfInBounds_toArray, List.set_cons_zero, List.set_cons_succ])
                  refine take_at (i := 10) (d := some 100) (v := ?_) rfl rfl (by kernel_rfl) (by kernel_rfl) (by kernel_rfl) (fun _ _ _ h => h) (Or.inl ⟨by rfl, ?_⟩) (by assumption) ?_
                  rotate_left 1
                  · (intro w hSw; (try dsimp only at hSw); go_simp) <;> (with_reducible rfl)
                  (try simp only [Act.put, List.setIfInBounds_toArray, List.set_cons_zero, List.set_cons_succ])
                  refine take_at (i := 11) (d := some 23) (v := ?_) rfl rfl (by kernel_rfl) (by kernel_rfl) (by kernel_rfl) (fun _ _ _ h => h) (Or.inl ⟨by rfl, ?_⟩) (by assumption) ?_
                  rotate_left 1
                  · (intro w hSw; (try dsimp only at hSw); go_simp) <;> (with_reducible rfl)
                  (try simp only [Act.put, List.setIfInBounds_toArray, List.set_cons_zero, List.set_cons_succ])
                  refine take_at (i := 12) (d := some 24) (v := ?_) rfl rfl (by kernel_rfl) (by kernel_rfl) (by kernel_rfl) (fun _ _ _ h => h) (Or.inl ⟨by rfl, ?_⟩) (by assumption) ?_
                  rotate_left 1
                  · (intro w hSw; (try dsimp only at hSw); go_simp) <;> (with_reducible rfl)
                  (try simp only [Act.put, List.setIfInBounds_toArray, List.set_cons_zero, List.set_cons_succ])
                  refine wpAnyH_done (by kernel_rfl) (Calm.normal ?_) _
                  clear hHeld5
                  have hzz : w.heap.size + 8 ≤ z.wd.heap.size := by have h8 := z.size; have h9 := x1.size; simp at h8 h9; omega
                  by_cases hv2 : v2 = 0
                  · subst hv2
                    have HZ := Lib.hid (show res = some ⟨jb, m, n1, f1⟩ by rw [HE3.out.1, if_pos rfl, HE3.out.2])
                    gi_wp2_with fail
                    refine ⟨?_, ⟨jb, m, n1, f1⟩, HZ.out, (show SinceOf w _ from Sx).below, by simp [go_sem], by simp [go_sem], by simp [go_sem], by simp [go_sem], by simp [go_sem]⟩
                    refine (Above.of_since (show SinceOf y5.wd x12.wd from Sx)).trans ?_
                    exact ((((Above.setCell _ _ (by simp; omega)).trans (Above.setCell _ _ (by simp; omega))).trans (Above.setCell _ _ (by simp; omega))).trans (Above.setCell _ _ (by simp; omega))).trans (Above.setCell _ _ (by simp; omega))
                  · have hvb : (v2 == 0) = false := by simpa using hv2
                    have HZ := Lib.hid (show res = firstFit sx L l jb m post by rw [HE3.out.1, if_neg hv2])
                    clear hv2
                    gi_wp2_with fail
                    exact ⟨Above.of_since Sx, Sx, post, by rw [HSX.out.2.2]; simp, by rw [HZ.out, HSX.out.1]⟩
              · have hfb : (f2 != 0) = true := by simpa using hf2
                have HE2 := Lib.hid (show res = none by rw [HE.out, if_neg hf2])
                clear hf2
                gi_wp2_with fail
                exact ⟨Above.of_since Sx, rfl, HE2.out, Sx⟩
            · rw [if_neg hn2] at hres
              have hnb : (n2 != 0) = true := by simpa using hn2
              have HE := Lib.hid hres
              clear hres hn2 hxs hxs' hpp hsx
              gi_wp2_with fail
              refine ⟨trivial, ?_⟩
              refine (CallsIn.inRound lp (callsIn_wide.2 (NT _ Sx).calls)).mono ?_
              rintro e _ ⟨rfl, x6, rfl⟩
              gi_wp2_with fail
              exact ⟨Above.of_since Sx, rfl, HE.out, Sx⟩
        case done =>
          rintro D W hD ⟨⟨y9, rfl⟩, post, hp, hres⟩ hK
          have hp0 : post = [] := by
            have := congrArg List.length hp
            simp at this
            exact this
          subst hp0
          have HZ := Lib.hid (show res = none from hres)
          have HK := Lib.hid (And.intro hK hD)
          clear hp hres hK hD
          go_wp2_with fail
          have hzz : w.heap.size + 8 ≤ D := by have h7 := HK.out.2; have h8 := z.size; have h9 := x1.size; simp at h7 h8 h9; omega
          have hq1 : Nonempty (Apart (w.heap.size + 1 + 1 + 1 + 1 + 1) D) := ⟨⟨by omega⟩⟩
          have hq2 : Nonempty (Apart (w.heap.size + 1 + 1 + 1 + 1 + 1 + 1) D) := ⟨⟨by omega⟩⟩
          refine ⟨by simp, .inl ⟨_, _, rfl, run_takeDeferred ((heap_set5 _ _ _ _ (by omega) (by omega) _ _ _ _ _).trans HK.out.1), ?_⟩⟩
          refine ⟨slotOpt none, ?_, by rw [HZ.out], since_putObj _ Sx (by omega)⟩
          simp [results, Tryz.results126, go_sem, slotOpt]
        case stop =>
          rintro D cc pre W hD hx hK
          cases cc <;> try exact hx.elim
          case ret =>
            obtain ⟨x, h1, h2, h3, h4, h5, h6, h7⟩ := hx
            have HX := Lib.hid (And.intro h1 (And.intro h2 (And.intro hK hD)))
            clear h1 h2 hK hD
            gi_wp2_with fail
            have hzz : w.heap.size + 8 ≤ D := by have h7 := HX.out.2.2.2; have h8 := z.size; have h9 := x1.size; simp at h7 h8 h9; omega
            have hq1 : Nonempty (Apart (w.heap.size + 1 + 1 + 1 + 1 + 1) D) := ⟨⟨by omega⟩⟩
            have hq2 : Nonempty (Apart (w.heap.size + 1 + 1 + 1 + 1 + 1 + 1) D) := ⟨⟨by omega⟩⟩
            refine ⟨by simp, .inl ⟨_, _, rfl, run_takeDeferred HX.out.2.2.1, ?_⟩⟩
            refine ⟨slotOpt (some x), ?_, by rw [HX.out.1], since_putObj _ (SinceOf.of_below HX.out.2.1) (by omega)⟩
            simp [results, Tryz.results126, go_sem, slotOpt, h3, h4, h5, h6, h7]
          case exit id =>
            obtain ⟨rfl, h2, ⟨y9, rfl⟩⟩ := hx
            have HZ := Lib.hid h2
            have HK := Lib.hid (And.intro hK hD)
            clear hK hD h2
            gi_wp2_with fail
            go_wp2_with fail
            have hzz : w.heap.size + 8 ≤ D := by have h7 := HK.out.2; have h8 := z.size; have h9 := x1.size; simp at h7 h8 h9; omega
            have hq1 : Nonempty (Apart (w.heap.size + 1 + 1 + 1 + 1 + 1) D) := ⟨⟨by omega⟩⟩
            have hq2 : Nonempty (Apart (w.heap.size + 1 + 1 + 1 + 1 + 1 + 1) D) := ⟨⟨by omega⟩⟩
            refine ⟨by simp, .inl ⟨_, _, rfl, run_takeDeferred ((heap_set5 _ _ _ _ (by omega) (by omega) _ _ _ _ _).trans HK.out.1), ?_⟩⟩
            refine ⟨slotOpt none, ?_, by rw [HZ.out], since_putObj _ Sx (by omega)⟩
            simp [results, Tryz.results126, go_sem, slotOpt]
end Go.Proofs.YtpaojgfmffkodaaGreat
/- Layer 52: dispatch. -/
namespace Go.Proofs.YtpaojgfmffkodaaGreat
set_option linter.unusedVariables false
set_option linter.unusedSimpArgs false
open Go.RowKit Go.Sort
attribute [local go_sem ↓] Go.wp_at_zero Go.wp_at_succ
def betterS (best : Option SlotR) (x : Option SlotR) : Option SlotR :=
  match x with
  | none => best
  | some x => match best with
    | none => some x
    | some b => if x.stop < b.stop then some x else some b
def dispatchV (s : ShopR) (L : List JobR) (l : List SlotR) (jb : Int) : Option SlotR := (jobAt L jb).ms.foldl (fun best m => betterS best (onV s L l jb m)) none
theorem foldl_at {α β : Type} (f : β → α → β) (b : β) {l : List α} {k : Nat} (h : k < l.length) : (l.take (k + 1)).foldl f b = f ((l.take k).foldl f b) l[k] := by
  rw [List.take_succ_eq_append_getElem h, List.foldl_append]; rfl
def slotOr (o : Option SlotR) : SlotR := o.getD ⟨0, 0, 0, 0⟩
structure SlotW (w : World) (g : Nat) (x : SlotR) : Prop where
  c0 : w.cell? ⟨g, 0, none⟩ = some (.int .i64 x.job)
  c1 : w.cell? ⟨g, 1, none⟩ = some (.int .i64 x.mach)
  c2 : w.cell? ⟨g, 2, none⟩ = some (.int .i64 x.start)
  c3 : w.cell? ⟨g, 3, none⟩ = some (.int .i64 x.stop)
  f0 : w.frozen? ⟨g, 0, none⟩ = false
  f1 : w.frozen? ⟨g, 1, none⟩ = false
  f2 : w.frozen? ⟨g, 2, none⟩ = false
  f3 : w.frozen? ⟨g, 3, none⟩ = false
  there : Nonempty (Old w g)
theorem SlotW.of {w w' : World} {g : Nat} {x : SlotR} (h : SlotW w g x) (hs : SinceOf w w') : SlotW w' g x := by
  obtain ⟨c0, c1, c2, c3, f0, f1, f2, f3, hO⟩ := h
  obtain ⟨z, rfl⟩ := hs
  exact ⟨by rw [Since.cell]; exact c0, by rw [Since.cell]; exact c1, by rw [Since.cell]; exact c2, by rw [Since.cell]; exact c3, by rw [Since.frozen]; exact f0, by rw [Since.frozen]; exact f1, by rw [Since.frozen]; exact f2, by rw [Since.frozen]; exact f3, inferInstance⟩
theorem SlotW.set {w : World} {g : Nat} {x : SlotR} (h : SlotW w g x) (y : SlotR) : SlotW ((((w.setCell ⟨g, 0, none⟩ (.int .i64 y.job)).setCell ⟨g, 1, none⟩ (.int .i64 y.mach)).setCell ⟨g, 2, none⟩ (.int .i64 y.start)).setCell ⟨g, 3, none⟩ (.int .i64 y.stop)) g y := by
  obtain ⟨c0, c1, c2, c3, f0, f1, f2, f3, hO⟩ := h
  have ne : ∀ i j : Nat, i ≠ j → (⟨g, i, none⟩ : Addr) ≠ ⟨g, j, none⟩ := fun i j h e => h (by injection e)
  refine ⟨?_, ?_, ?_, ?_, by simpa using f0, by simpa using f1, by simpa using f2, by simpa using f3, inferInstance⟩
  · rw [World.cell?_setCell_other _ _ _ _ (ne _ _ (by omega)), World.cell?_setCell_other _ _ _ _ (ne _ _ (by omega)), World.cell?_setCell_other _ _ _ _ (ne _ _ (by omega))]
    exact World.cell?_setCell_same _ _ _ c0
  · rw [World.cell?_setCell_other _ _ _ _ (ne _ _ (by omega)), World.cell?_setCell_other _ _ _ _ (ne _ _ (by omega))]
    exact World.cell?_setCell_same (u := .int .i64 x.mach) _ _ _ (by rw [World.cell?_setCell_other _ _ _ _ (ne _ _ (by omega))]; exact c1)
  · rw [World.cell?_setCell_other _ _ _ _ (ne _ _ (by omega))]
    exact World.cell?_setCell_same (u := .int .i64 x.start) _ _ _ (by rw [World.cell?_setCell_other _ _ _ _ (ne _ _ (by omega)), World.cell?_setCell_other _ _ _ _ (ne _ _ (by omega))]; exact c2)
  · exact World.cell?_setCell_same (u := .int .i64 x.stop) _ _ _ (by rw [World.cell?_setCell_other _ _ _ _ (ne _ _ (by omega)), World.cell?_setCell_other _ _ _ _ (ne _ _ (by omega)), World.cell?_setCell_other _ _ _ _ (ne _ _ (by omega))]; exact c3)
set_option maxRecDepth 100000 in
set_option maxHeartbeats 4000000 in
theorem dispatch_any (s : ShopR) (A : Option Addr) (c : Nat) (L : List JobR) (B : Option Addr) (d : Nat) (l : List SlotR) (jb : Nat) (w : World) (hs : IsShop w s) (h : IsJobs w A c L) (gp : GoodP s L) (hord : ∀ j ∈ L, 0 ≤ j.ord ∧ j.ord ≤ 1000) (hmc : ∀ j ∈ L, ∀ m ∈ j.ms, 0 ≤ m ∧ m < s.cals.length) (hl : IsSlots w B d l) (hll : l.length < 1073741824) (hn : NamedS s L l) (hjb : jb < L.length) :
    Yields Tryz.prog 91 #[shopV s, .slice A L.length c, .slice B l.length d, .int .i64 jb] w (slotOpt (dispatchV s L l jb)) := by
  apply Yields.ret
  have ON := fun (m : Nat) (hm : m < s.cals.length) W (hW : SinceOf w W) => on_any s A c L B d l jb m W (hs.of hW) (h.of hW) gp hord (hl.of hW) hll hn hjb hm
  have hjl := h.len
  obtain ⟨gj, oj, hAj, hrj⟩ := h.row.at_ (by omega)
  have hOj := hrj.there
  have i0 := hrj.j0 jb hjb
  have hms := h.all _ (List.getElem_mem hjb)
  have hmr := hmc _ (List.getElem_mem hjb)
  have em : (jobAt L jb).ms = L[jb].ms := by rw [jobAt_at hjb]
  obtain ⟨res, hres⟩ : ∃ v, v = dispatchV s L l jb := ⟨_, rfl⟩
  rw [← hres]
  unfold dispatchV at hres
  rw [em] at hres
  obtain ⟨sA, sc, cals, sB, sd, R, most⟩ := s
  simp only at *
  subst hAj
  generalize L[jb].ms = ms at *
  have hml := hms.2
  have H := Lib.hid (And.intro hms (And.intro hmr (And.intro hres ON)))
  clear hs h gp hord hmc hl hn hms hmr hres ON hrj em
  go_enter Tryz.func91, Tryz.ntmps91
  go_wp2_with fail
  go_loopg [11, 22] ms.length (fun gas s11 s22 wr => ∃ (k : Nat) (best : Option SlotR), k ≤ ms.length ∧ ms.length - k ≤ gas ∧ s11 = .bool best.isSome ∧ s22 = .int .i64 k ∧ SinceOf ((w.alloc (.cells #[.slice sA cals.length sc, .slice sB R.length sd, .int .i64 most] 37)).alloc (.cells #[.int .i64 0, .int .i64 0, .int .i64 0, .int .i64 0] 76)) wr ∧ SlotW wr (w.heap.size + 1 + 1) (slotOr best) ∧
    best = (ms.take k).foldl (fun best m => betterS best (onV ⟨sA, sc, cals, sB, sd, R, most⟩ L l jb m)) none)
  case atStart => exact ⟨0, none, by omega, by omega, rfl, rfl, Sx, ⟨by simp [go_sem, slotOr], by simp [go_sem, slotOr], by simp [go_sem, slotOr], by simp [go_sem, slotOr], by simp [go_sem], by simp [go_sem], by simp [go_sem], by simp [go_sem], inferInstance⟩, by simp⟩
  case round =>
    obtain ⟨k, best, hk, hgas, rfl, rfl, ⟨z, rfl⟩, hb, hbe⟩ := hrel
    by_cases hlt : k < ms.length
    · have hsn := foldl_at (fun best m => betterS best (onV ⟨sA, sc, cals, sB, sd, R, most⟩ L l jb m)) none hlt
      rw [← hbe] at hsn
      obtain ⟨hm0, hm1⟩ := H.out.2.1 _ (List.getElem_mem hlt)
      obtain ⟨mN, hmN⟩ : ∃ q : Nat, ms[k] = q := ⟨ms[k].toNat, by omega⟩
      rw [hmN] at hsn
      have OK := H.out.2.2.2 mN (by omega)
      obtain ⟨gm, om, hAm, hrm⟩ := (H.out.1.1.of (show SinceOf w z.wd from Sx)).at_ (by omega)
      have hOm := hrm.there
      have n0 := hrm.n0 k hlt
      rw [hmN] at n0
      generalize onV ⟨sA, sc, cals, sB, sd, R, most⟩ L l jb mN = ov at *
      have HB := Lib.hid (And.intro hb (And.intro hbe hsn))
      obtain ⟨b0, b1, b2, b3, e0, e1, e2, e3, hO2⟩ := hb
      clear hbe hsn hrm hmN hm0 hm1
      generalize L[jb].A = Am at *
      subst hAm
      cases ov with
      | none =>
        go_wp2_with fail
        (with_reducible refine (OK _ Sx).calls.mono ?_)
        rintro e _ ⟨rfl, x1, rfl⟩
        unfold slotOpt
        go_wp2_with fail
        go_roundg (ms.length - (k + 1))
        case measure => omega
        case rel => exact ⟨k + 1, best, hlt, Nat.le_refl _, rfl, by go_num, Sx, HB.out.1.of Sx, HB.out.2.2.symm⟩
      | some x =>
        cases best with
        | none =>
          go_wp2_with fail
          (with_reducible refine (OK _ Sx).calls.mono ?_)
          rintro e _ ⟨rfl, x1, rfl⟩
          unfold slotOpt
          go_wp2_with fail
          go_roundg (ms.length - (k + 1))
          case measure => omega
          case rel => exact ⟨k + 1, some x, hlt, Nat.le_refl _, rfl, by go_num, Sx, (HB.out.1.of Sx).set x, HB.out.2.2.symm⟩
        | some bx =>
          have hbx : betterS (some bx) (some x) = if x.stop < bx.stop then some x else some bx := rfl
          by_cases hlt2 : x.stop < bx.stop
          · have hd : decide (x.stop < bx.stop) = true := by simpa using hlt2
            rw [if_pos hlt2] at hbx
            have HX := Lib.hid hbx
            clear hbx
            simp only [slotOr, Option.getD_some] at b0 b1 b2 b3
            go_wp2_with fail
            (with_reducible refine (OK _ Sx).calls.mono ?_)
            rintro e _ ⟨rfl, x1, rfl⟩
            unfold slotOpt
            go_wp2_with fail
            go_roundg (ms.length - (k + 1))
            case measure => omega
            case rel => exact ⟨k + 1, some x, hlt, Nat.le_refl _, rfl, by go_num, Sx, (HB.out.1.of Sx).set x, by rw [HB.out.2.2, HX.out]⟩
          · have hd : decide (x.stop < bx.stop) = false := by simpa using hlt2
            rw [if_neg hlt2] at hbx
            have HX := Lib.hid hbx
            clear hbx
            simp only [slotOr, Option.getD_some] at b0 b1 b2 b3
            go_wp2_with fail
            (with_reducible refine (OK _ Sx).calls.mono ?_)
            rintro e _ ⟨rfl, x1, rfl⟩
            unfold slotOpt
            go_wp2_with fail
            go_roundg (ms.length - (k + 1))
            case measure => omega
            case rel => exact ⟨k + 1, some bx, hlt, Nat.le_refl _, rfl, by go_num, Sx, HB.out.1.of Sx, by rw [HB.out.2.2, HX.out]⟩
    · have hkl : k = ms.length := by omega
      rw [hkl, List.take_length, ← H.out.2.2.1] at hbe
      obtain ⟨b0, b1, b2, b3, e0, e1, e2, e3, hO2⟩ := hb
      have HB := Lib.hid hbe
      clear hbe hkl
      go_wp2_with fail
      go_returns
      refine ⟨?_, Sx⟩
      rw [← HB.out]
      cases best <;> rfl
end Go.Proofs.YtpaojgfmffkodaaGreat
/- Layer 52: List. -/
namespace Go.Proofs.YtpaojgfmffkodaaGreat
set_option linter.unusedVariables false
set_option linter.unusedSimpArgs false
open Go.RowKit Go.Sort
attribute [local go_sem ↓] Go.wp_at_zero Go.wp_at_succ
theorem firstFit_named {s : ShopR} {L : List JobR} {l : List SlotR} {jb m : Int} : ∀ {ts : List Int} {x : SlotR}, firstFit s L l jb m ts = some x → x.job = jb ∧ x.mach = m
  | [], x, h => by cases h
  | t :: ts, x, h => by
    unfold firstFit at h
    split at h
    · split at h
      · split at h
        · cases h; exact ⟨rfl, rfl⟩
        · exact firstFit_named h
      · cases h
    · cases h
theorem onV_named {s : ShopR} {L : List JobR} {l : List SlotR} {jb m : Int} {x : SlotR} (h : onV s L l jb m = some x) : x.job = jb ∧ x.mach = m := by
  unfold onV at h
  split at h
  · cases h
  · exact firstFit_named h
theorem best_named {s : ShopR} {L : List JobR} {l : List SlotR} {jb : Int} : ∀ (ms : List Int) (b : Option SlotR) (ms0 : List Int), (∀ m ∈ ms, m ∈ ms0) → (∀ x, b = some x → x.job = jb ∧ x.mach ∈ ms0) → ∀ x, ms.foldl (fun best m => betterS best (onV s L l jb m)) b = some x → x.job = jb ∧ x.mach ∈ ms0
  | [], b, ms0, _, hb, x, h => hb x h
  | m :: ms, b, ms0, hm, hb, x, h => by
    refine best_named ms _ ms0 (fun m' h' => hm m' (by simp [h'])) (fun y hy => ?_) x h
    have hy2 : betterS b (onV s L l jb m) = some y := hy
    cases hov : onV s L l jb m with
    | none => rw [hov] at hy2; exact hb y hy2
    | some x' =>
      rw [hov] at hy2
      have hn := onV_named hov
      have hmm := hm m (by simp)
      cases b with
      | none =>
        cases hy2
        exact ⟨hn.1, hn.2 ▸ hmm⟩
      | some b' =>
        have hy3 : (if x'.stop < b'.stop then some x' else some b') = some y := hy2
        by_cases hlt : x'.stop < b'.stop
        · rw [if_pos hlt] at hy3
          cases hy3
          exact ⟨hn.1, hn.2 ▸ hmm⟩
        · rw [if_neg hlt] at hy3
          exact hb y hy3
theorem dispatch_named {s : ShopR} {L : List JobR} {l : List SlotR} {jb : Int} {x : SlotR} (h : dispatchV s L l jb = some x) : x.job = jb ∧ x.mach ∈ (jobAt L jb).ms :=
  best_named _ none _ (fun _ h => h) (fun _ h => by cases h) x h
theorem check_machs {s : ShopR} {L : List JobR} (h : checkS s L = true) : ∀ j ∈ L, ∀ m ∈ j.ms, 0 ≤ m ∧ m < s.cals.length := by
  intro j hj m hm
  have h1 := (job_parts (check_job h hj)).1
  unfold machsB at h1
  obtain ⟨i, hi, rfl⟩ := List.mem_iff_getElem.1 hm
  have h2 := List.all_eq_true.1 h1 i (by simpa using hi)
  unfold machB at h2
  rw [List.getD_eq_getElem?_getD, List.getElem?_eq_getElem hi, Option.getD_some] at h2
  simp only [Bool.and_eq_true, decide_eq_true_eq] at h2
  omega
theorem infoInt : (Tryz.prog.info? 3).map (fun i => (i.zero, i.size, i.bytes)) = some (some (.int .i64 0), 1, 8) := by kernel_rfl
theorem encN_len (x : Int) : (encN x).length = 1 := rfl
theorem encN_one (x : Int) : ∀ u ∈ encN x, u.oneCell' = true := by intro u hu; simp [encN] at hu; subst hu; rfl
theorem rowN_at (W : World) (g : Nat) (x : Int) (t : TypeId) (hg : W.heap.size = g) : IsInts (W.alloc (.cells #[.int .i64 x] t)) (some ⟨g, 0, none⟩) 1 [x] := by
  subst hg
  refine ⟨(by intro h; cases h), .inr ⟨_, 0, rfl, ⟨fun i hi j u hu => ?_, inferInstance⟩⟩⟩
  obtain rfl : i = 0 := by simpa using hi
  match j, hu with
  | 0, hu => simp [encN] at hu; subst hu; simp
  | j + 1, hu => simp [encN] at hu
theorem asked_in {L : List JobR} {l : List SlotR} {j : Int} (h : askedE L l j = 0) : 0 ≤ j ∧ j < L.length := by
  unfold askedE at h
  split at h
  · cases h
  · rename_i hj
    unfold jobIn at hj
    simp at hj
    omega
end Go.Proofs.YtpaojgfmffkodaaGreat
/- Layer 52: Price. -/
namespace Go.Proofs.YtpaojgfmffkodaaGreat
set_option linter.unusedVariables false
set_option linter.unusedSimpArgs false
open Go.RowKit Go.Sort
attribute [local go_sem ↓] Go.wp_at_zero Go.wp_at_succ
structure BoolsN (w : World) (g n : Nat) (F : Nat → Bool) : Prop where
  cell : ∀ o, o < n → w.cell? ⟨g, o, none⟩ = some (.bool (F o))
  free : ∀ o, o < n → w.frozen? ⟨g, o, none⟩ = false
  there : Nonempty (Old w g)
theorem BoolsN.of {w w' : World} {g n : Nat} {F : Nat → Bool} (h : BoolsN w g n F) (hs : SinceOf w w') : BoolsN w' g n F := by
  obtain ⟨z, rfl⟩ := hs
  have := h.there
  exact ⟨fun o ho => by rw [Since.cell]; exact h.cell o ho, fun o ho => by rw [Since.frozen]; exact h.free o ho, inferInstance⟩
theorem BoolsN.set {w : World} {g n : Nat} {F : Nat → Bool} (h : BoolsN w g n F) (i : Nat) (v : Bool) : BoolsN (w.setCell ⟨g, i, none⟩ (.bool v)) g n (fun o => if o = i then v else F o) := by
  have := h.there
  refine ⟨fun o ho => ?_, fun o ho => by rw [World.frozen?_setCell]; exact h.free o ho, inferInstance⟩
  by_cases e : o = i
  · subst e
    rw [if_pos rfl]
    exact World.cell?_setCell_same _ _ _ (h.cell o ho)
  · rw [if_neg e, World.cell?_setCell_other _ _ _ _ (by intro h; injection h with _ h2 _; exact e h2.symm)]
    exact h.cell o ho
theorem BoolsN.other {w : World} {g n : Nat} {F : Nat → Bool} (h : BoolsN w g n F) (b i : Nat) (u : Value) (hne : g ≠ b) : BoolsN (w.setCell ⟨b, i, none⟩ u) g n F := by
  have := h.there
  refine ⟨fun o ho => ?_, fun o ho => by rw [World.frozen?_setCell]; exact h.free o ho, inferInstance⟩
  rw [World.cell?_setCell_other _ _ _ _ (by intro h; injection h with h1; exact hne h1.symm)]
  exact h.cell o ho
theorem BoolsN.congr {w : World} {g n : Nat} {F G : Nat → Bool} (h : BoolsN w g n F) (e : ∀ o, o < n → F o = G o) : BoolsN w g n G := ⟨fun o ho => by rw [← e o ho]; exact h.cell o ho, h.free, h.there⟩
theorem SlotW.other {w : World} {g : Nat} {x : SlotR} (h : SlotW w g x) (b i : Nat) (u : Value) (hne : g ≠ b) : SlotW (w.setCell ⟨b, i, none⟩ u) g x := by
  obtain ⟨c0, c1, c2, c3, f0, f1, f2, f3, hO⟩ := h
  have ne : ∀ j : Nat, (⟨b, i, none⟩ : Addr) ≠ ⟨g, j, none⟩ := fun j e => hne (by injection e with e1; exact e1.symm)
  exact ⟨(World.cell?_setCell_other _ _ _ _ (ne _)).trans c0, (World.cell?_setCell_other _ _ _ _ (ne _)).trans c1, (World.cell?_setCell_other _ _ _ _ (ne _)).trans c2, (World.cell?_setCell_other _ _ _ _ (ne _)).trans c3, by simpa using f0, by simpa using f1, by simpa using f2, by simpa using f3, inferInstance⟩
theorem addr_ne {g i j : Nat} (h : i ≠ j) : (⟨g, i, none⟩ : Addr) ≠ ⟨g, j, none⟩ := fun e => h (by injection e)
theorem SlotW.set0 {w : World} {g : Nat} {x : SlotR} (h : SlotW w g x) (v : Int) : SlotW (w.setCell ⟨g, 0, none⟩ (.int .i64 v)) g ⟨v, x.mach, x.start, x.stop⟩ := by
  obtain ⟨c0, c1, c2, c3, f0, f1, f2, f3, hO⟩ := h
  exact ⟨World.cell?_setCell_same _ _ _ c0, (World.cell?_setCell_other _ _ _ _ (addr_ne (by omega))).trans c1, (World.cell?_setCell_other _ _ _ _ (addr_ne (by omega))).trans c2, (World.cell?_setCell_other _ _ _ _ (addr_ne (by omega))).trans c3, by simpa using f0, by simpa using f1, by simpa using f2, by simpa using f3, inferInstance⟩
theorem SlotW.set1 {w : World} {g : Nat} {x : SlotR} (h : SlotW w g x) (v : Int) : SlotW (w.setCell ⟨g, 1, none⟩ (.int .i64 v)) g ⟨x.job, v, x.start, x.stop⟩ := by
  obtain ⟨c0, c1, c2, c3, f0, f1, f2, f3, hO⟩ := h
  exact ⟨(World.cell?_setCell_other _ _ _ _ (addr_ne (by omega))).trans c0, World.cell?_setCell_same _ _ _ c1, (World.cell?_setCell_other _ _ _ _ (addr_ne (by omega))).trans c2, (World.cell?_setCell_other _ _ _ _ (addr_ne (by omega))).trans c3, by simpa using f0, by simpa using f1, by simpa using f2, by simpa using f3, inferInstance⟩
theorem SlotW.set2 {w : World} {g : Nat} {x : SlotR} (h : SlotW w g x) (v : Int) : SlotW (w.setCell ⟨g, 2, none⟩ (.int .i64 v)) g ⟨x.job, x.mach, v, x.stop⟩ := by
  obtain ⟨c0, c1, c2, c3, f0, f1, f2, f3, hO⟩ := h
  exact ⟨(World.cell?_setCell_other _ _ _ _ (addr_ne (by omega))).trans c0, (World.cell?_setCell_other _ _ _ _ (addr_ne (by omega))).trans c1, World.cell?_setCell_same _ _ _ c2, (World.cell?_setCell_other _ _ _ _ (addr_ne (by omega))).trans c3, by simpa using f0, by simpa using f1, by simpa using f2, by simpa using f3, inferInstance⟩
theorem SlotW.set3 {w : World} {g : Nat} {x : SlotR} (h : SlotW w g x) (v : Int) : SlotW (w.setCell ⟨g, 3, none⟩ (.int .i64 v)) g ⟨x.job, x.mach, x.start, v⟩ := by
  obtain ⟨c0, c1, c2, c3, f0, f1, f2, f3, hO⟩ := h
  exact ⟨(World.cell?_setCell_other _ _ _ _ (addr_ne (by omega))).trans c0, (World.cell?_setCell_other _ _ _ _ (addr_ne (by omega))).trans c1, (World.cell?_setCell_other _ _ _ _ (addr_ne (by omega))).trans c2, World.cell?_setCell_same _ _ _ c3, by simpa using f0, by simpa using f1, by simpa using f2, by simpa using f3, inferInstance⟩
def lateOf (L : List JobR) (x : SlotR) : Int := x.stop - (jobAt L x.job).due
def hasB (l : List SlotR) (j : Nat) : Bool := l.any fun y => y.job == (j : Int)
def missN (n : Nat) (l : List SlotR) : Int := (n : Int) - ((List.range n).countP (hasB l) : Nat)
def tardyL (L : List JobR) : List SlotR → Int
  | [] => 0
  | x :: r => (if 0 < lateOf L x then lateOf L x else 0) + tardyL L r
def worstL (L : List JobR) (l : List SlotR) : Int := l.foldl (fun m x => if 0 < lateOf L x then imax m (lateOf L x) else m) 0
def endL (l : List SlotR) : Int := l.foldl (fun m x => imax m x.stop) 0
def priceV (L : List JobR) (l : List SlotR) : SlotR := ⟨missN L.length l, tardyL L l, worstL L l, endL l⟩
theorem tardyL_append (L : List JobR) : ∀ l m, tardyL L (l ++ m) = tardyL L l + tardyL L m
  | [], m => by simp [tardyL]
  | x :: l, m => by simp only [List.cons_append, tardyL, tardyL_append L l m]; omega
theorem hasB_snoc (l : List SlotR) (x : SlotR) (j : Nat) : hasB (l ++ [x]) j = (hasB l j || x.job == (j : Int)) := by simp [hasB]
theorem cnt_set (F : Nat → Bool) (i : Nat) : ∀ n, (List.range n).countP (fun j => F j || ((i : Int) == (j : Int))) = (List.range n).countP F + (if i < n ∧ F i = false then 1 else 0)
  | 0 => by simp
  | n + 1 => by
    rw [List.range_succ, List.countP_append, List.countP_append, cnt_set F i n]
    simp only [List.countP_singleton]
    by_cases e : i = n
    · subst e
      cases h : F i <;> simp
    · rw [show ((i : Int) == (n : Int)) = false from by simp; omega, Bool.or_false]
      have h3 : (i < n + 1 ∧ F i = false) ↔ (i < n ∧ F i = false) := ⟨fun h => ⟨by omega, h.2⟩, fun h => ⟨by omega, h.2⟩⟩
      simp only [h3]
      omega
theorem cg_false (F : Nat → Bool) (i o : Nat) : (if o = i then true else F o) = (F o || ((i : Int) == (o : Int))) := by
  by_cases e : o = i
  · subst e; simp
  · rw [if_neg e, show ((i : Int) == (o : Int)) = false from by simp; omega, Bool.or_false]
theorem cg_true (F : Nat → Bool) (i o : Nat) (h : F i = true) : F o = (F o || ((i : Int) == (o : Int))) := by
  by_cases e : o = i
  · subst e; rw [h]; rfl
  · rw [show ((i : Int) == (o : Int)) = false from by simp; omega, Bool.or_false]
theorem missN_nil (n : Nat) : missN n [] = n := by
  unfold missN
  rw [List.countP_eq_zero.2 (fun _ _ => by simp [hasB])]
  simp
theorem missN_snoc (n : Nat) (l : List SlotR) (i : Nat) (x : SlotR) (hx : x.job = i) (hi : i < n) : missN n (l ++ [x]) = missN n l - (if hasB l i = true then 0 else 1) := by
  unfold missN
  rw [show hasB (l ++ [x]) = (fun j => hasB l j || ((i : Int) == (j : Int))) from funext fun j => by rw [hasB_snoc, hx], cnt_set]
  cases h : hasB l i <;> simp [hi] <;> omega
theorem missN_bounds (n : Nat) (l : List SlotR) : 0 ≤ missN n l ∧ missN n l ≤ n := by
  unfold missN
  have := List.countP_le_length (p := hasB l) (l := List.range n)
  rw [List.length_range] at this
  omega
theorem tardyL_bounds (L : List JobR) : ∀ l, (∀ x ∈ l, lateOf L x ≤ 1000000) → 0 ≤ tardyL L l ∧ tardyL L l ≤ 1000000 * l.length
  | [], _ => by simp [tardyL]
  | x :: l, h => by
    have h1 := tardyL_bounds L l (fun y hy => h y (by simp [hy]))
    have h2 := h x (by simp)
    simp only [tardyL, List.length_cons]
    split <;> omega
theorem infoBool : (Tryz.prog.info? 4).map (fun i => (i.zero, i.size, i.bytes)) = some (some (.bool false), 1, 1) := by kernel_rfl
def encB (x : Bool) : List Value := [.bool x]
theorem encB_len (x : Bool) : (encB x).length = 1 := rfl
theorem boolsN_of {base : Nat} {e : TypeId} {w : World} {g c n : Nat} (h : Owns encB 1 base e w (some ⟨g, 0, none⟩) c (List.replicate n false)) (hO : Nonempty (Old w g)) : BoolsN w g n (fun _ => false) := by
  by_cases h0 : n = 0
  · subst h0
    exact ⟨fun o ho => by omega, fun o ho => by omega, hO⟩
  · obtain ⟨g', e1, -, hlv⟩ := h.live encB_len (by simp; omega)
    simp only [Option.some.injEq, Addr.mk.injEq, and_true] at e1
    subst e1
    refine ⟨fun o ho => ?_, fun o ho => ?_, hO⟩
    · have := hlv.row.cells o (by simpa using ho) 0 (.bool false) (by simp [encB])
      simpa using this
    · have := hlv.free o (by simpa using ho)
      simpa using this
set_option maxRecDepth 100000 in
set_option maxHeartbeats 8000000 in
theorem price_any (A : Option Addr) (c : Nat) (L : List JobR) (B : Option Addr) (d : Nat) (l : List SlotR) (w : World) (h : IsJobs w A c L) (hL : L.length < 1073741824) (hdue : ∀ j ∈ L, 0 ≤ j.due ∧ j.due ≤ 1000000) (hl : IsSlots w B d l) (hll : l.length < 1073741824) (hn : ∀ x ∈ l, (0 ≤ x.job ∧ x.job < L.length) ∧ 0 ≤ x.stop ∧ x.stop ≤ 1000000) :
    Yields Tryz.prog 96 #[.slice A L.length c, .slice B l.length d] w (slotV (priceV L l)) := by
  apply Yields.ret
  have I1 := fun (j : Int) W => in_any j 0 ((L.length : Int) - 1) W
  obtain ⟨i0, hi, hz0, hz1, hz2⟩ := info_parts infoBool
  have HI := Lib.hid (And.intro hi (And.intro hz0 (And.intro hz1 hz2)))
  have H := Lib.hid (And.intro h (And.intro hdue (And.intro hl hn)))
  obtain ⟨pv, hpv0⟩ : ∃ v, v = priceV L l := ⟨_, rfl⟩
  rw [← hpv0]
  have HP := Lib.hid hpv0
  clear hi hz0 hz1 hz2 h hdue hl hn hpv0
  go_enter Tryz.func96, Tryz.ntmps96
  go_wp2_with (refine wpList_make_owns _ rfl (.tmp 14) (.tmp 14) 40 rfl encB_len false i0 _ 1 Tryz.underlying40 HI.out.1 HI.out.2.1 HI.out.2.2.1 HI.out.2.2.2 rfl (by omega) L.length L.length rfl rfl (Nat.le_refl _) (by omega) (by unfold maxLen; omega) (Nat.le_refl _) ?_; intro cs hown)
  have hbo : BoolsN _ (w.heap.size + 1 + 1) L.length (fun _ => false) := boolsN_of (by simpa using hown) inferInstance
  have HB0 := Lib.hid hbo
  clear hbo hown
  go_loopg [18] l.length (fun gas s18 wr => ∃ (k : Nat), k ≤ l.length ∧ l.length - k ≤ gas ∧ s18 = .int .i64 k ∧ SinceOf (w.alloc (.cells #[.int .i64 0, .int .i64 0, .int .i64 0, .int .i64 0] 155)) wr ∧ SlotW wr (w.heap.size + 1) (priceV L (l.take k)) ∧ BoolsN wr (w.heap.size + 1 + 1) L.length (hasB (l.take k)))
  case atStart => exact ⟨0, by omega, by omega, rfl, Sx, ⟨by simp [go_sem, priceV, missN_nil], by simp [go_sem, priceV, tardyL], by simp [go_sem, priceV, worstL], by simp [go_sem, priceV, endL], by simp [go_sem], by simp [go_sem], by simp [go_sem], by simp [go_sem], inferInstance⟩, HB0.out.congr (by intro o ho; simp [hasB])⟩
  case round =>
    obtain ⟨k, hk, hgas, rfl, ⟨z, rfl⟩, hsw, hbn⟩ := hrel
    by_cases hlt : k < l.length
    · have hrl := H.out.2.2.1.of (show SinceOf w z.wd from Sx)
      obtain ⟨gs, os, rfl, hrs⟩ := hrl.at_ (by omega)
      have hOs := hrs.there
      have s0 := hrs.s0 k hlt
      have s1 := hrs.s1 k hlt
      have s2 := hrs.s2 k hlt
      have s3 := hrs.s3 k hlt
      obtain ⟨⟨hj0, hj1⟩, ht0, ht1⟩ := H.out.2.2.2 _ (List.getElem_mem hlt)
      obtain ⟨jn, hjn⟩ : ∃ q : Nat, l[k].job = q := ⟨l[k].job.toNat, by omega⟩
      have hjl : jn < L.length := by omega
      obtain ⟨gj, oj, hAj, hrj⟩ := (H.out.1.row.of (show SinceOf w z.wd from Sx)).at_ (by omega)
      subst hAj
      have hOj := hrj.there
      have j4 := hrj.j4 jn hjl
      obtain ⟨hd0, hd1⟩ := H.out.2.1 _ (List.getElem_mem hjl)
      have hlate : lateOf L l[k] = l[k].stop - L[jn].due := by unfold lateOf; rw [hjn, jobAt_at hjl]
      have hM := missN_bounds L.length (l.take k)
      have hT := tardyL_bounds L (l.take k) (fun y hy => by
        obtain ⟨⟨a1, a2⟩, a3, a4⟩ := H.out.2.2.2 y (List.mem_of_mem_take hy)
        unfold lateOf
        have : 0 ≤ (jobAt L y.job).due := by
          have := jobAt_at (L := L) (m := y.job.toNat) (by omega)
          rw [show ((y.job.toNat : Nat) : Int) = y.job by omega] at this
          rw [this]
          exact (H.out.2.1 _ (List.getElem_mem (by omega))).1
        omega)
      rw [List.length_take, Nat.min_eq_left hk] at hT
      have hpe : priceV L (l.take (k + 1)) = ⟨missN L.length (l.take k) - (if hasB (l.take k) jn = true then 0 else 1), tardyL L (l.take k) + (if 0 < l[k].stop - L[jn].due then l[k].stop - L[jn].due else 0), if 0 < l[k].stop - L[jn].due then imax (worstL L (l.take k)) (l[k].stop - L[jn].due) else worstL L (l.take k), imax (endL (l.take k)) l[k].stop⟩ := by
        unfold priceV
        rw [List.take_succ_eq_append_getElem hlt, missN_snoc _ _ jn _ hjn hjl, tardyL_append]
        simp only [tardyL, worstL, endL, List.foldl_append, List.foldl_cons, List.foldl_nil, hlate]
        simp
      have hbe : ∀ o, hasB (l.take (k + 1)) o = (hasB (l.take k) o || ((jn : Int) == (o : Int))) := fun o => by rw [List.take_succ_eq_append_getElem hlt, hasB_snoc, hjn]
      have hh := hbn.cell jn hjl
      have hf := hbn.free jn hjl
      have hsw0 := hsw
      obtain ⟨p0, p1, p2, p3, e0, e1, e2, e3, hOp⟩ := hsw
      have hOb := hbn.there
      unfold priceV at p0 p1 p2 p3
      simp only at p0 p1 p2 p3
      generalize hMv : missN L.length (l.take k) = M at *
      generalize hTv : tardyL L (l.take k) = T at *
      generalize hWv : worstL L (l.take k) = Wo at *
      generalize hEv : endL (l.take k) = En at *
      rw [hjn] at s0
      generalize l[k].stop = xe at *
      generalize l[k].start = xs at *
      generalize l[k].mach = xm at *
      generalize L[jn].due = du at *
      have hpv : priceV L (l.take k) = ⟨M, T, Wo, En⟩ := by unfold priceV; rw [hMv, hTv, hWv, hEv]
      rw [hpv] at hsw0
      generalize hhq : hasB (l.take k) jn = hq at *
      have HG := Lib.hid (And.intro hsw0 (And.intro hbn (And.intro hpe (And.intro hbe hhq))))
      clear hsw0 hbn hpe hbe hhq hpv hMv hTv hWv hEv hrs hrl hrj hlate hjn hj0 hj1
      have hq1 : Nonempty (Apart z.wd.heap.size (w.heap.size + 1)) := ⟨⟨by have := hOp.elim fun q => q.lt; omega⟩⟩
      have hq2 : Nonempty (Apart z.wd.heap.size (w.heap.size + 1 + 1)) := ⟨⟨by have := hOb.elim fun q => q.lt; omega⟩⟩
      have hq3 : Nonempty (Apart (w.heap.size + 1) (w.heap.size + 1 + 1)) := ⟨⟨by omega⟩⟩
      have hq4 : Nonempty (Apart (w.heap.size + 1 + 1) (w.heap.size + 1)) := ⟨⟨by omega⟩⟩
      have hin0 : decide (0 ≤ (jn : Int)) = true := by simp
      have hin1 : decide ((jn : Int) ≤ (L.length : Int) - 1) = true := by simp; omega
      cases hq
      · by_cases hla : 0 < xe - du
        · have hlb : decide (0 < xe - du) = true := by simpa using hla
          go_wp2_with fail
          refine (I1 _ _).mono ?_
          rintro e w' ⟨rfl, rfl⟩
          go_wp2_with fail
          refine region_later (by kernel_rfl) (by kernel_rfl) ?_
          repeat (go_big_quiet_step (fail))
          refine wpQuiet_nil ?_
          rintro _ ⟨z2, rfl⟩
          go_wp2_with fail
          go_roundg (l.length - (k + 1))
          case measure => omega
          case rel =>
            refine ⟨k + 1, hlt, Nat.le_refl _, by go_num, Sx, ?_, ?_⟩
            · rw [HG.out.2.2.1, if_neg (by simp), if_pos hla, if_pos hla]
              exact ((((((HG.out.1.of ((SinceOf.refl z.wd).alloc _)).set3 (imax En xe)).other (w.heap.size + 1 + 1) jn (.bool true) (by omega)).set0 (M - 1)).of (LaterOf.since ⟨z2, rfl⟩)).set1 (T + (xe - du))).set2 (imax Wo (xe - du))
            · refine BoolsN.congr (((((((HG.out.2.1.of ((SinceOf.refl z.wd).alloc _)).other (w.heap.size + 1) 3 (.int .i64 (imax En xe)) (by omega)).set jn true).other (w.heap.size + 1) 0 (.int .i64 (M - 1)) (by omega)).of (LaterOf.since ⟨z2, rfl⟩)).other (w.heap.size + 1) 1 (.int .i64 (T + (xe - du))) (by omega)).other (w.heap.size + 1) 2 (.int .i64 (imax Wo (xe - du))) (by omega)) (fun o ho => by rw [HG.out.2.2.2.1 o]; exact cg_false _ _ _)
        · have hlb : decide (0 < xe - du) = false := by simpa using hla
          go_wp2_with fail
          refine (I1 _ _).mono ?_
          rintro e w' ⟨rfl, rfl⟩
          go_wp2_with fail
          refine region_later (by kernel_rfl) (by kernel_rfl) ?_
          repeat (go_big_quiet_step (fail))
          refine wpQuiet_nil ?_
          rintro _ ⟨z2, rfl⟩
          go_wp2_with fail
          go_roundg (l.length - (k + 1))
          case measure => omega
          case rel =>
            refine ⟨k + 1, hlt, Nat.le_refl _, by go_num, Sx, ?_, ?_⟩
            · rw [HG.out.2.2.1, if_neg (by simp), if_neg (by omega), if_neg (by omega), Int.add_zero]
              exact ((((HG.out.1.of ((SinceOf.refl z.wd).alloc _)).set3 (imax En xe)).other (w.heap.size + 1 + 1) jn (.bool true) (by omega)).set0 (M - 1)).of (LaterOf.since ⟨z2, rfl⟩)
            · refine BoolsN.congr (((((HG.out.2.1.of ((SinceOf.refl z.wd).alloc _)).other (w.heap.size + 1) 3 (.int .i64 (imax En xe)) (by omega)).set jn true).other (w.heap.size + 1) 0 (.int .i64 (M - 1)) (by omega)).of (LaterOf.since ⟨z2, rfl⟩)) (fun o ho => by rw [HG.out.2.2.2.1 o]; exact cg_false _ _ _)
      · by_cases hla : 0 < xe - du
        · have hlb : decide (0 < xe - du) = true := by simpa using hla
          go_wp2_with fail
          refine (I1 _ _).mono ?_
          rintro e w' ⟨rfl, rfl⟩
          go_wp2_with fail
          refine region_later (by kernel_rfl) (by kernel_rfl) ?_
          repeat (go_big_quiet_step (fail))
          refine wpQuiet_nil ?_
          rintro _ ⟨z2, rfl⟩
          go_wp2_with fail
          go_roundg (l.length - (k + 1))
          case measure => omega
          case rel =>
            refine ⟨k + 1, hlt, Nat.le_refl _, by go_num, Sx, ?_, ?_⟩
            · rw [HG.out.2.2.1, if_pos (by trivial), Int.sub_zero, if_pos hla, if_pos hla]
              exact ((((HG.out.1.of ((SinceOf.refl z.wd).alloc _)).set3 (imax En xe)).of (LaterOf.since ⟨z2, rfl⟩)).set1 (T + (xe - du))).set2 (imax Wo (xe - du))
            · refine BoolsN.congr (((((HG.out.2.1.of ((SinceOf.refl z.wd).alloc _)).other (w.heap.size + 1) 3 (.int .i64 (imax En xe)) (by omega)).of (LaterOf.since ⟨z2, rfl⟩)).other (w.heap.size + 1) 1 (.int .i64 (T + (xe - du))) (by omega)).other (w.heap.size + 1) 2 (.int .i64 (imax Wo (xe - du))) (by omega)) (fun o ho => by rw [HG.out.2.2.2.1 o]; exact cg_true _ _ _ HG.out.2.2.2.2)
        · have hlb : decide (0 < xe - du) = false := by simpa using hla
          go_wp2_with fail
          refine (I1 _ _).mono ?_
          rintro e w' ⟨rfl, rfl⟩
          go_wp2_with fail
          refine region_later (by kernel_rfl) (by kernel_rfl) ?_
          repeat (go_big_quiet_step (fail))
          refine wpQuiet_nil ?_
          rintro _ ⟨z2, rfl⟩
          go_wp2_with fail
          go_roundg (l.length - (k + 1))
          case measure => omega
          case rel =>
            refine ⟨k + 1, hlt, Nat.le_refl _, by go_num, Sx, ?_, ?_⟩
            · rw [HG.out.2.2.1, if_pos (by trivial), Int.sub_zero, if_neg (by omega), if_neg (by omega), Int.add_zero]
              exact ((HG.out.1.of ((SinceOf.refl z.wd).alloc _)).set3 (imax En xe)).of (LaterOf.since ⟨z2, rfl⟩)
            · refine BoolsN.congr (((HG.out.2.1.of ((SinceOf.refl z.wd).alloc _)).other (w.heap.size + 1) 3 (.int .i64 (imax En xe)) (by omega)).of (LaterOf.since ⟨z2, rfl⟩)) (fun o ho => by rw [HG.out.2.2.2.1 o]; exact cg_true _ _ _ HG.out.2.2.2.2)
    · have hkl : k = l.length := by omega
      rw [hkl, List.take_length, ← HP.out] at hsw
      obtain ⟨p0, p1, p2, p3, e0, e1, e2, e3, hOp⟩ := hsw
      clear hbn hkl
      go_wp2_with fail
      go_returns
      exact ⟨rfl, Sx⟩
end Go.Proofs.YtpaojgfmffkodaaGreat
