/- Layer 18: the iterator over all sums of two rings, and the list of them. -/
import Derived.Test.YticmfmcflikneaaHull8
import Derived.Test.YticmfmcflikneaaRange4
namespace Go.Proofs.Yticmfmcflikneaa
open Go.RowKit Go.Sort
set_option linter.unusedVariables false
set_option linter.unusedSimpArgs false
attribute [local go_sem ↓] Go.wp_at_zero Go.wp_at_succ semAt_free

def sumOf (p x : Int × Int) : Int × Int := (wadd p.1 x.1, wadd p.2 x.2)
def sumsL (r o : List (Int × Int)) : List (Int × Int) := r.flatMap (fun p => o.map (sumOf p))
theorem sumsL_take {r o : List (Int × Int)} {i : Nat} (h : i < r.length) : sumsL (r.take (i + 1)) o = sumsL (r.take i) o ++ o.map (sumOf r[i]) := by
  unfold sumsL
  rw [List.take_succ_eq_append_getElem h, List.flatMap_append]
  simp
theorem sumsL_split {r o : List (Int × Int)} {i j : Nat} (h : i < r.length) (h2 : j < o.length) : sumsL r o = (sumsL (r.take i) o ++ (o.take j).map (sumOf r[i])) ++ sumOf r[i] o[j] :: ((o.drop (j + 1)).map (sumOf r[i]) ++ sumsL (r.drop (i + 1)) o) := by
  have e1 : r = r.take i ++ r[i] :: r.drop (i + 1) := by rw [← List.drop_eq_getElem_cons h, List.take_append_drop]
  have e2 : o = o.take j ++ o[j] :: o.drop (j + 1) := by rw [← List.drop_eq_getElem_cons h2, List.take_append_drop]
  have e3 : sumsL r o = sumsL (r.take i) o ++ (o.map (sumOf r[i]) ++ sumsL (r.drop (i + 1)) o) := by
    unfold sumsL
    conv => lhs; rw [e1]
    rw [List.flatMap_append, List.flatMap_cons]
  have e4 : o.map (sumOf r[i]) = (o.take j).map (sumOf r[i]) ++ sumOf r[i] o[j] :: (o.drop (j + 1)).map (sumOf r[i]) := by
    conv => lhs; rw [e2]
    rw [List.map_append, List.map_cons]
  rw [e3, e4]
  simp only [List.append_assoc, List.cons_append]
theorem sumsL_len (r o : List (Int × Int)) : (sumsL r o).length = r.length * o.length := by
  unfold sumsL
  induction r with
  | nil => simp
  | cons p r ih => rw [List.flatMap_cons, List.length_append, List.length_map, ih, List.length_cons, Nat.add_mul, Nat.one_mul, Nat.add_comm]
set_option maxRecDepth 100000 in
set_option maxHeartbeats 4000000 in
theorem sumsSeq_any (A B : Option Addr) (c d : Nat) (r o : List (Int × Int)) (b1 b2 : Nat) (w : World) (h : IsVecs w A c r) (h2 : IsVecs w B d o) (hl : r.length < 4611686018427387904) (hl2 : o.length < 4611686018427387904) (hb : w.cell? ⟨b1, 0, none⟩ = some (.slice A r.length c)) (hbO : Nonempty (Old w b1)) (hb2 : w.cell? ⟨b2, 0, none⟩ = some (.slice B o.length d)) (hbO2 : Nonempty (Old w b2)) (w1 : World) (hw1 : SinceOf w w1) (n : Nat) :
    SeqP (fun W => SinceOf w W) Fence.wide n Try.prog 101 #[.pointer (some ⟨b1, 0, none⟩), .pointer (some ⟨b2, 0, none⟩)] (fun p : Int × Int => #[vv p.1 p.2]) (sumsL r o) w1 := by
  intro lb J Jx Pk W hW hJ hJx hKp hP0 hPs hY h0
  replace hW := hw1.trans hW
  clear hw1
  have bAt : ∀ W, SinceOf w W → W.cell? ⟨b1, 0, none⟩ = some (.slice A r.length c) ∧ Nonempty (Old W b1) ∧ W.cell? ⟨b2, 0, none⟩ = some (.slice B o.length d) ∧ Nonempty (Old W b2) := fun W hW => by
    obtain ⟨z, rfl⟩ := hW
    refine ⟨?_, inferInstance, ?_, inferInstance⟩
    · rw [Since.cell]; exact hb
    · rw [Since.cell]; exact hb2
  have HY := Lib.hid hY
  have HJ := Lib.hid (And.intro hJ (And.intro hJx (And.intro hKp (And.intro hP0 (And.intro hPs h0)))))
  have H := Lib.hid (And.intro h (And.intro h2 bAt))
  obtain ⟨q0, q1, -, -⟩ := bAt W hW
  clear h h2 hb hb2 hY hJ hJx hKp h0 hbO hbO2 hW hP0 hPs bAt
  refine callsIn_of_wp Try.func101 rfl trivial ?_ rfl
  simp only [Try.ntmps101, List.size_toArray, List.length_cons, List.length_nil, Nat.reduceAdd, Nat.reduceSub, Array.replicate_succ, Array.replicate_zero, List.push_toArray, List.append_toArray, List.nil_append, List.cons_append]
  gi_wp2_with fail
  clear q0 q1
  gi_loopw [10] (fun s10 wr => ∃ i : Nat, s10 = .int .i64 i ∧ i ≤ r.length ∧ J (sumsL (r.take i) o) wr) (fun s10 wr => r.length - (intOf s10).toNat)
  case atStart => exact ⟨0, rfl, by omega, HJ.out.2.2.2.2.2⟩
  case round =>
    obtain ⟨i, rfl, hi, hj⟩ := hrel
    by_cases hlt : i < r.length
    · have hS := HJ.out.2.2.1 _ _ hj
      have hB := H.out.2.2 _ hS
      obtain ⟨z, rfl⟩ := hS
      obtain ⟨q0, q1, q2, q3⟩ := hB
      have hr0 := H.out.1.of (w' := z.wd) (by (repeat (first | (with_reducible exact SinceOf.refl _) | (with_reducible assumption) | (with_reducible refine SinceOf.alloc ?_ _) | (with_reducible refine SinceOf.drew ?_) | (with_reducible refine SinceOf.drewN ?_ _) | (with_reducible refine SinceOf.later ?_ _) | (with_reducible refine SinceOf.further ?_ _) | (with_reducible refine SinceOf.setCell ?_ (by first | exact Nat.le_refl _ | (simp; done) | omega | (simp; omega)) _))))
      obtain ⟨g, off, hA, hr⟩ := hr0.at_ (by omega)
      subst hA
      have hO := hr.there
      have a0 := hr.v0 i hlt
      have a1 := hr.v1 i hlt
      have hj2 : J (sumsL (r.take i) o) (z.wd.alloc (.cells #[.int .i64 r[i].1, .int .i64 r[i].2] 32)) := HJ.out.1 _ _ _ hj ((SinceOf.refl _).alloc _)
      have hk2 : Pk (z.wd.alloc (.cells #[.int .i64 r[i].1, .int .i64 r[i].2] 32)) z.wd.heap.size := HJ.out.2.2.2.1 _ _ _ hj
      obtain ⟨p, hp⟩ : ∃ p, p = r[i] := ⟨_, rfl⟩
      rw [← hp] at a0 a1 hj2 hk2
      obtain ⟨px, py⟩ := p
      simp only at a0 a1 hj2 hk2
      have HE := Lib.hid (And.intro hp (And.intro hj2 hk2))
      clear hp hj hj2 hk2 hr hr0
      gi_wp2_with fail
      obtain ⟨V, hV⟩ : ∃ V, V = z.wd.heap.size := ⟨_, rfl⟩
      have hc0 : (z.wd.alloc (.cells #[.int .i64 px, .int .i64 py] 32)).cell? ⟨V, 0, none⟩ = some (.int .i64 px) := by rw [hV]; simp [go_sem]
      have hc1 : (z.wd.alloc (.cells #[.int .i64 px, .int .i64 py] 32)).cell? ⟨V, 1, none⟩ = some (.int .i64 py) := by rw [hV]; simp [go_sem]
      rw [← hV] at HE ⊢
      have HC := Lib.hid (And.intro hc0 hc1)
      clear hc0 hc1 hV
      gi_loopw [16] (fun s16 wr => ∃ j : Nat, s16 = .int .i64 j ∧ j ≤ o.length ∧ J (sumsL (r.take i) o ++ (o.take j).map (sumOf (px, py))) wr ∧ wr.cell? ⟨V, 0, none⟩ = some (.int .i64 px) ∧ wr.cell? ⟨V, 1, none⟩ = some (.int .i64 py) ∧ Pk wr V) (fun s16 wr => o.length - (intOf s16).toNat)
      case atStart => exact ⟨0, rfl, by omega, by rw [List.take_zero, List.map_nil, List.append_nil]; exact HE.out.2.1, HC.out.1, HC.out.2, HE.out.2.2⟩
      case round =>
        obtain ⟨j, rfl, hj, hJ2, v0, v1, hPk⟩ := hrel
        by_cases hlt2 : j < o.length
        · have hS := HJ.out.2.2.1 _ _ hJ2
          obtain ⟨y, rfl⟩ := hS
          have hVlt : V < y.wd.heap.size := by
            rcases Nat.lt_or_ge V y.wd.heap.size with q | q
            · exact q
            · simp [World.cell?, Array.getElem?_eq_none q] at v0
          have hOV : Nonempty (Old y.wd V) := ⟨⟨hVlt⟩⟩
          have hs0 := H.out.2.1.of (w' := y.wd) (by (repeat (first | (with_reducible exact SinceOf.refl _) | (with_reducible assumption) | (with_reducible refine SinceOf.alloc ?_ _) | (with_reducible refine SinceOf.drew ?_) | (with_reducible refine SinceOf.drewN ?_ _) | (with_reducible refine SinceOf.later ?_ _) | (with_reducible refine SinceOf.further ?_ _) | (with_reducible refine SinceOf.setCell ?_ (by first | exact Nat.le_refl _ | (simp; done) | omega | (simp; omega)) _))))
          obtain ⟨g2, off2, hA2, hs⟩ := hs0.at_ (by omega)
          subst hA2
          have hO2 := hs.there
          have e0 := hs.v0 j hlt2
          have e1 := hs.v1 j hlt2
          obtain ⟨q, hq⟩ : ∃ q, q = o[j] := ⟨_, rfl⟩
          rw [← hq] at e0 e1
          have hsp := sumsL_split hlt hlt2
          rw [← HE.out.1, ← hq] at hsp
          obtain ⟨qx, qy⟩ := q
          simp only at e0 e1
          have HF := Lib.hid (And.intro hJ2 (And.intro hPk (And.intro hsp hq)))
          clear hJ2 hPk hsp hq hs hs0
          have AD := add_any px py qx qy
          gi_wp2_with fail
          refine ⟨trivial, fun h => wide_none h _, callsIn_wide.2 ((AD _).calls.mono ?_)⟩
          rintro e _ ⟨rfl, x1, rfl⟩
          have hJ3 := HJ.out.1 _ _ _ HF.out.1 (show SinceOf y.wd x1.wd by (repeat (first | (with_reducible exact SinceOf.refl _) | (with_reducible assumption) | (with_reducible refine SinceOf.alloc ?_ _) | (with_reducible refine SinceOf.drew ?_) | (with_reducible refine SinceOf.drewN ?_ _) | (with_reducible refine SinceOf.later ?_ _) | (with_reducible refine SinceOf.further ?_ _) | (with_reducible refine SinceOf.setCell ?_ (by first | exact Nat.le_refl _ | (simp; done) | omega | (simp; omega)) _))))
          have hP3 := HJ.out.2.2.2.2.1 _ _ _ HF.out.2.1 (show SinceOf y.wd x1.wd by (repeat (first | (with_reducible exact SinceOf.refl _) | (with_reducible assumption) | (with_reducible refine SinceOf.alloc ?_ _) | (with_reducible refine SinceOf.drew ?_) | (with_reducible refine SinceOf.drewN ?_ _) | (with_reducible refine SinceOf.later ?_ _) | (with_reducible refine SinceOf.further ?_ _) | (with_reducible refine SinceOf.setCell ?_ (by first | exact Nat.le_refl _ | (simp; done) | omega | (simp; omega)) _))))
          have w0 : x1.wd.cell? ⟨V, 0, none⟩ = some (.int .i64 px) := by simp [go_sem, *]
          have w1 : x1.wd.cell? ⟨V, 1, none⟩ = some (.int .i64 py) := by simp [go_sem, *]
          obtain ⟨fn, tmps, assign, body, hy, hR⟩ := HY.out _ _ _ _ HF.out.2.2.1 hJ3
          simp only [sumOf] at hy hR
          clear AD
          gi_wp2_with fail
          refine ⟨fun h => wide_none h _, hR.mono ?_⟩
          rintro e W3 (⟨rfl, hJ4, hk4⟩ | ⟨rfl, hJx4⟩)
          · obtain ⟨b4, p4⟩ := hk4 _ hP3
            have HG := Lib.hid (And.intro hJ4 (And.intro p4 (And.intro ((World.cell?_of_block b4).trans w0) ((World.cell?_of_block b4).trans w1))))
            clear hJ4 hk4 b4 p4 hy hR hP3 hJ3 w0 w1
            gi_wp2_with fail
            go_roundw
            case rel => exact ⟨j + 1, by go_num, hlt2, by rw [List.take_succ_eq_append_getElem hlt2, List.map_append, ← List.append_assoc, ← HF.out.2.2.2]; exact HG.out.1, HG.out.2.2.1, HG.out.2.2.2, HG.out.2.1⟩
            case measure => simp [intOf]; omega
          · have HG := Lib.hid hJx4
            clear hJx4 hy hR hP3 hJ3 w0 w1
            gi_wp2_with fail
            refine bodyPost_ret (results_none rfl _ _ _) rfl ?_
            exact ⟨⟨_, rfl⟩, .inr ⟨_, HG.out⟩⟩
        · have hjl : j = o.length := by omega
          subst hjl
          rw [List.take_length] at hJ2
          have HG := Lib.hid hJ2
          clear hJ2 hPk v0 v1
          gi_wp2_with fail
          go_roundw
          case rel => exact ⟨i + 1, by go_num, hlt, by rw [sumsL_take hlt, ← HE.out.1]; exact HG.out⟩
          case measure => simp [intOf]; omega
    · have hil : i = r.length := by omega
      subst hil
      rw [List.take_length] at hj
      have HG := Lib.hid hj
      clear hj
      gi_wp2_with fail
      go_end0
      exact ⟨⟨_, rfl⟩, .inl HG.out⟩
/-- Block k is not the appended row's. -/
def PkA (w : World) (W : World) (k : Nat) : Prop := w.heap.size + 3 ≤ k ∧ k < W.heap.size ∧ ∀ A n c, W.cell? ⟨w.heap.size, 0, none⟩ = some (.slice A n c) → blockOf A ≠ some k
theorem PkA.grown {w A B : World} {k : Nat} (h : PkA w A k) (hg : A.grownBy B (some (w.heap.size + 2))) : PkA w B k := by
  obtain ⟨h1, h2, h3⟩ := h
  have hb := hg.block w.heap.size (by omega) (by intro e; injection e with e; omega)
  exact ⟨h1, Nat.lt_of_lt_of_le h2 hg.size, fun A n c hA => h3 A n c ((World.cell?_of_block hb).symm.trans hA)⟩
theorem AppI.fresh {w A : World} {pre : List (Int × Int)} (h : AppI w w.heap.size pre A) (o : Obj) (hA : w.heap.size + 3 ≤ A.heap.size) : PkA w (A.alloc o) A.heap.size := by
  obtain ⟨⟨A', c', h1, h2⟩, h3, h4, h5⟩ := h
  refine ⟨hA, by simp, fun B n c hB e => ?_⟩
  have hb : (A.alloc o).heap[w.heap.size]? = A.heap[w.heap.size]? := Below.heap_alloc _ _ _ (by omega)
  rw [World.cell?_of_block hb, h1] at hB
  injection hB with hB
  injection hB with hB1 hB2 hB3
  subst hB1
  have := (h2.below _ e).2
  omega
set_option maxRecDepth 100000 in
set_option maxHeartbeats 4000000 in
theorem appendSums_any (A B : Option Addr) (c d : Nat) (r o : List (Int × Int)) (b1 b2 : Nat) (w : World) (h : IsVecs w A c r) (h2 : IsVecs w B d o) (hr : r.length < 4611686018427387904) (ho : o.length < 4611686018427387904) (hl : (sumsL r o).length * 16 ≤ 140737488355328) (hb : w.cell? ⟨b1, 0, none⟩ = some (.slice A r.length c)) (hbO : Nonempty (Old w b1)) (hb2 : w.cell? ⟨b2, 0, none⟩ = some (.slice B o.length d)) (hbO2 : Nonempty (Old w b2)) :
    Calls Try.prog 100 #[.slice none 0 0, .func (.func 101) #[] #[.pointer (some ⟨b1, 0, none⟩), .pointer (some ⟨b2, 0, none⟩)]] w fun e w' => ∃ A' c', e = .returned (.slice A' (sumsL r o).length c') ∧ OwnVecs w.heap.size w' A' c' (sumsL r o) ∧ SinceOf w w' := by
  have H := Lib.hid (And.intro h (And.intro h2 (And.intro hb (And.intro hbO (And.intro hb2 hbO2)))))
  obtain ⟨i0, hi, hz0, hz1, hz2⟩ := info_parts infoVec
  have HI := Lib.hid (And.intro hi (And.intro hz0 (And.intro hz1 hz2)))
  clear h h2 hb hbO hb2 hbO2 hi hz0 hz1 hz2
  generalize hlo : sumsL r o = l at *
  refine (callsIn_wide (n := 3)).1 ?_
  refine callsIn_of_wp_marks Try.func100 rfl trivial ?_ rfl
  refine wpIn_wide.2 ?_
  simp only [Try.ntmps100, List.size_toArray, List.length_cons, List.length_nil, Nat.reduceAdd, Nat.reduceSub, Array.replicate_succ, Array.replicate_zero, List.push_toArray, List.append_toArray, List.nil_append, List.cons_append]
  go_wp2_with fail
  refine (wpIn_wide (n := 3)).1 ?_
  refine wpIn_rangeFunc_kept rfl (by decide) (gf := 101) (lb := #[.pointer (some ⟨b1, 0, none⟩), .pointer (some ⟨b2, 0, none⟩)]) rfl trivial (enters_of Try.func101 (by kernel_rfl) rfl)
    (hlo ▸ sumsSeq_any A B c d r o b1 b2 w H.out.1 H.out.2.1 hr ho H.out.2.2.1 H.out.2.2.2.1 H.out.2.2.2.2.1 H.out.2.2.2.2.2 _ (by (repeat (first | (with_reducible exact SinceOf.refl _) | (with_reducible assumption) | (with_reducible refine SinceOf.alloc ?_ _) | (with_reducible refine SinceOf.drew ?_) | (with_reducible refine SinceOf.drewN ?_ _) | (with_reducible refine SinceOf.later ?_ _) | (with_reducible refine SinceOf.further ?_ _) | (with_reducible refine SinceOf.setCell ?_ (by first | exact Nat.le_refl _ | (simp; done) | omega | (simp; omega)) _)))) _) (fun _ => rfl)
    (PkA w) (fun X k hk => ⟨by have := hk.1; simp; omega, hk.2.1⟩) (fun X Y k hk hg => hk.grown (by simpa using hg))
    (AppI w w.heap.size) (fun s X o hX hI => hI.fresh o (by simpa using hX)) (fun _ _ _ => False) (fun s X Y hs hg => hs.grown (by omega) (by simpa using hg)) (fun _ _ _ _ h _ => h.elim) (fun s X hs => hs.since)
    ⟨⟨none, 0, by simp, Owns.nil _ _ _ _ _⟩, by simp, by (repeat (first | (with_reducible exact SinceOf.refl _) | (with_reducible assumption) | (with_reducible refine SinceOf.alloc ?_ _) | (with_reducible refine SinceOf.drew ?_) | (with_reducible refine SinceOf.drewN ?_ _) | (with_reducible refine SinceOf.later ?_ _) | (with_reducible refine SinceOf.further ?_ _) | (with_reducible refine SinceOf.setCell ?_ (by first | exact Nat.le_refl _ | (simp; done) | omega | (simp; omega)) _))), by simp⟩ ?round ?done ?stop
  case round =>
    rintro lp pre p post W hxs hsz hI
    obtain ⟨px, py⟩ := p
    apply Exists.intro
    refine ⟨W.alloc (.cells #[.int .i64 px, .int .i64 py] 32), (SinceOf.refl _).alloc _, ?_, ?_⟩
    · intro K hK
      gi_wp2_with fail
      exact hK
    · rintro W2 hgr2 hsz2 hI2
      obtain ⟨⟨A4, c4, k0, ho⟩, kf, ⟨z, rfl⟩, hlt⟩ := hI2
      simp only [World.size_alloc] at hsz hsz2 hgr2
      have hneW : some W.heap.size ≠ some (w.heap.size + 1 + 1) := by intro e; injection e with e; omega
      have k1 : z.wd.cell? ⟨W.heap.size, 0, none⟩ = some (.int .i64 px) := hgr2.cell (by simp [go_sem]) hneW
      have k2 : z.wd.cell? ⟨W.heap.size, 1, none⟩ = some (.int .i64 py) := hgr2.cell (by simp [go_sem]) hneW
      have hWs : W.heap.size < z.wd.heap.size := by have := hgr2.size; simp at this; omega
      have hOW : Nonempty (Old z.wd W.heap.size) := ⟨⟨hWs⟩⟩
      have hOg : Nonempty (Old z.wd w.heap.size) := ⟨⟨hlt⟩⟩
      have hpl : pre.length < l.length := by rw [hxs]; simp
      have hne0 : some w.heap.size ≠ blockOf A4 := fun e => by have := (ho.below _ e.symm).1; omega
      have HO := Lib.hid (And.intro ho (And.intro hxs hgr2))
      clear ho hxs hgr2 hI
      gi_wp2_with (gi_at_builtin; refine wpListIn_append_row rfl (.tmp 8) (.tmp 10) 22 rfl encV_len (by omega) encV_one i0 _ 16 Try.underlying22 HI.out.1 HI.out.2.1 HI.out.2.2.1 HI.out.2.2.2 rfl (l := pre) (A := A4) (c := c4) (base := w.heap.size + 3) rfl (HO.out.1.of (by (repeat (first | (with_reducible exact SinceOf.refl _) | (with_reducible assumption) | (with_reducible refine SinceOf.alloc ?_ _) | (with_reducible refine SinceOf.drew ?_) | (with_reducible refine SinceOf.drewN ?_ _) | (with_reducible refine SinceOf.later ?_ _) | (with_reducible refine SinceOf.further ?_ _) | (with_reducible refine SinceOf.setCell ?_ (by first | exact Nat.le_refl _ | (simp; done) | omega | (simp; omega)) _))))) (m := [(px, py)]) rfl (isRow_atV _ _ px py (by first | rfl | simp)) (by unfold maxLen; simp; omega) (by simp; omega) (by simp; omega) ?_; intro A5 c5 w5 ho5 hgr5 hbl5; have n0 : w5.cell? ⟨w.heap.size, 0, none⟩ = some (.slice A4 pre.length c4) := hgr5.cell (by simp [go_sem, *]) hne0; have nf : w5.frozen? ⟨w.heap.size, 0, none⟩ = false := (World.frozen?_of_block (hgr5.block w.heap.size (by simp; omega) hne0)).trans (by simp [go_sem, *]))
      have hne5 : blockOf A5 ≠ some w.heap.size := fun e => by have := (ho5.below _ e).1; omega
      have hs5 := hgr5.size
      simp only [World.size_alloc] at hs5
      have keep : ∀ k, k ≠ w.heap.size → k < w.heap.size + 3 → (w5.setCell ⟨w.heap.size, 0, none⟩ (.slice A5 (pre.length + 1) c5)).heap[k]? = z.wd.heap[k]? := fun k hk hk3 => by
        rw [Below.heap_setCell _ _ _ k (by omega), hgr5.block k (by simp; omega) (fun e => by have := (HO.out.1.below _ e.symm).1; omega)]
        exact Below.heap_alloc _ _ _ (by omega)
      simp only [World.size_alloc]
      refine ⟨⟨by simp; omega, keep _ (by omega) (by omega), keep _ (by omega) (by omega)⟩, ⟨⟨A5, c5, ?_, ?_⟩, by simpa using nf, ?_, by simp; omega⟩, fun k hk => ?_⟩
      · rw [List.length_append]
        exact World.cell?_setCell_same _ _ _ n0
      · exact ho5.kept (grownBy_setCell (p := ⟨w.heap.size, 0, none⟩) rfl _) (.inr hne5)
      · exact SinceOf.setCell (SinceOf.grown (by (repeat (first | (with_reducible exact SinceOf.refl _) | (with_reducible assumption) | (with_reducible refine SinceOf.alloc ?_ _) | (with_reducible refine SinceOf.drew ?_) | (with_reducible refine SinceOf.drewN ?_ _) | (with_reducible refine SinceOf.later ?_ _) | (with_reducible refine SinceOf.further ?_ _) | (with_reducible refine SinceOf.setCell ?_ (by first | exact Nat.le_refl _ | (simp; done) | omega | (simp; omega)) _)))) hgr5 (fun b hb => by have := (HO.out.1.below b hb).1; omega)) (Nat.le_refl _) _
      · obtain ⟨p1, p2, p3⟩ := hk
        have p4 := p3 _ _ _ k0
        refine ⟨?_, p1, by simp; omega, fun A n c hA => ?_⟩
        · rw [Below.heap_setCell _ _ _ k (by simp; omega), hgr5.block k (by simp; omega) (fun e => p4 e.symm)]
          exact Below.heap_alloc _ _ _ (by omega)
        · rw [World.cell?_setCell_same _ _ _ n0] at hA
          injection hA with hA
          injection hA with hA1 hA2 hA3
          subst hA1
          intro e
          rcases hbl5 with q | q
          · exact p4 (q ▸ e)
          · rw [q] at e
            injection e with e
            simp at e
            omega
  case done =>
    rintro D W hD ⟨⟨A4, c4, k0, ho⟩, kf, ⟨z, rfl⟩, hlt⟩ hK
    have hOg : Nonempty (Old z.wd w.heap.size) := ⟨⟨hlt⟩⟩
    simp only [World.size_alloc] at hD
    have HO := Lib.hid (And.intro ho (And.intro hK hD))
    clear ho hK hD
    go_wp2_with fail
    refine ⟨by simp, .inl ⟨_, _, rfl, run_takeDeferred HO.out.2.1, ?_⟩⟩
    refine ⟨.slice A4 l.length c4, ?_, A4, c4, rfl, ?_, ?_⟩
    · simp [results, Try.results100, go_sem]
    · exact (HO.out.1.kept (grownBy_putObj' _ _ _) (.inr (HO.out.1.not_deferred HO.out.2.1 (by intro _ _ _ h; cases h)))).base_le (by omega)
    · exact SinceOf.grown ⟨z, rfl⟩ (grownBy_putObj' _ _ _) (fun b hb => by cases hb; have := HO.out.2.2; omega)
  case stop => exact fun _ _ _ _ _ h _ => h.elim
theorem collectSums_any (A B : Option Addr) (c d : Nat) (r o : List (Int × Int)) (b1 b2 : Nat) (w : World) (h : IsVecs w A c r) (h2 : IsVecs w B d o) (hr : r.length < 4611686018427387904) (ho : o.length < 4611686018427387904) (hl : (sumsL r o).length * 16 ≤ 140737488355328) (hb : w.cell? ⟨b1, 0, none⟩ = some (.slice A r.length c)) (hbO : Nonempty (Old w b1)) (hb2 : w.cell? ⟨b2, 0, none⟩ = some (.slice B o.length d)) (hbO2 : Nonempty (Old w b2)) :
    Calls Try.prog 86 #[.func (.func 101) #[] #[.pointer (some ⟨b1, 0, none⟩), .pointer (some ⟨b2, 0, none⟩)]] w fun e w' => ∃ A' c', e = .returned (.slice A' (sumsL r o).length c') ∧ OwnVecs w.heap.size w' A' c' (sumsL r o) ∧ SinceOf w w' := by
  have H := Lib.hid (appendSums_any A B c d r o b1 b2 w h h2 hr ho hl hb hbO hb2 hbO2)
  clear h h2 hb hbO hb2 hbO2
  go_enter Try.func86, Try.ntmps86
  go_wp2_with fail
  refine H.out.mono ?_
  rintro e _ ⟨A1, c1, rfl, ho, ⟨x1, rfl⟩⟩
  have HO := Lib.hid ho
  clear ho
  go_wp2_with fail
  go_returns
  exact ⟨A1, c1, rfl, HO.out, ⟨x1, rfl⟩⟩
theorem sums_any (A B : Option Addr) (c d n m : Nat) (w : World) :
    Calls Try.prog 87 #[.slice A n c, .slice B m d] w fun e w' => ∃ b1 b2, e = .returned (.func (.func 101) #[] #[.pointer (some ⟨b1, 0, none⟩), .pointer (some ⟨b2, 0, none⟩)]) ∧ w'.cell? ⟨b1, 0, none⟩ = some (.slice A n c) ∧ Nonempty (Old w' b1) ∧ w'.cell? ⟨b2, 0, none⟩ = some (.slice B m d) ∧ Nonempty (Old w' b2) ∧ SinceOf w w' := by
  go_enter Try.func87, Try.ntmps87
  go_wp2_with fail
  go_returns
  refine ⟨w.heap.size, w.heap.size + 1, by simp, by simp [go_sem], ⟨⟨by simp; omega⟩⟩, by simp [go_sem], ⟨⟨by simp⟩⟩, by (repeat (first | (with_reducible exact SinceOf.refl _) | (with_reducible assumption) | (with_reducible refine SinceOf.alloc ?_ _) | (with_reducible refine SinceOf.drew ?_) | (with_reducible refine SinceOf.drewN ?_ _) | (with_reducible refine SinceOf.later ?_ _) | (with_reducible refine SinceOf.further ?_ _) | (with_reducible refine SinceOf.setCell ?_ (by first | exact Nat.le_refl _ | (simp; done) | omega | (simp; omega)) _)))⟩
end Go.Proofs.Yticmfmcflikneaa
