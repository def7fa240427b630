/- Rows that the call makes with make. -/
import Derived.Test.YtkpnffokjpgalaaGreatKSl
import Derived.Test.YtkpnffokjpgalaaGreatKSort
import Derived.Laws.MakeOwn
import Derived.Test.YtkpnffokjpgalaaGreatKJntS1
namespace Go.Proofs.YtkpnffokjpgalaaGreat
set_option linter.unusedVariables false
set_option linter.unusedSimpArgs false
open Go.RowKit Go.Sort

section
variable {P : Program} {α : Type} {enc : α → List Value} {k : Nat} {base : Nat} {e : TypeId}
theorem run_make_owns (hk : ∀ x, (enc x).length = k) (z0 : α) (t : TypeId) (i : TypeInfo) (z : Value) (bytes : Nat) (ht : P.underlying t = some (.slice e)) (hi : P.info? e = some i) (hz : i.zero = some z) (hsize : i.size = k) (hby : i.bytes = bytes) (hzc : z.cells.toList = enc z0) (hk0 : 0 < k)
    (w : World) (n c : Nat) (hnc : n ≤ c) (hbytes : bytes * c ≤ 281474976710656) (h63 : c ≤ maxLen) (hb : base ≤ w.heap.size) :
    ∃ cs, (Instr.makeSlice t (.int .i64 (n : Int)) (.int .i64 (c : Int))).run P w = .ok (.slice (some ⟨w.heap.size, 0, none⟩) n c) (w.alloc (.cells cs e)) ∧ Owns enc k base e (w.alloc (.cells cs e)) (some ⟨w.heap.size, 0, none⟩) c (List.replicate n z0) := by
  have hb' : (i.bytes : Int) * (c : Int) ≤ 281474976710656 := by
    rw [hby]
    have h : ((bytes * c : Nat) : Int) ≤ 281474976710656 := by omega
    rwa [Int.natCast_mul] at h
  have hr := run_make (P := P) w t e i z ht hi hz .i64 .i64 n c (by omega) (by omega) hb' (by unfold maxLen at h63; omega)
  simp only [Int.toNat_natCast, hsize] at hr
  refine ⟨_, hr, ?_⟩
  have hzl : z.cells.size = k := by rw [← Array.length_toList, hzc, hk]
  have hsz : (madeCells z.cells (c * k)).size = c * k := size_madeCells _ _
  refine ⟨?_, .inr ⟨w.heap.size, c, madeCells z.cells (c * k), by rw [List.length_replicate], hb, heap_alloc_new w _, by rw [List.length_replicate]; exact hnc, h63, hsz, ?_⟩⟩
  · rw [flat_length hk]
  · rw [List.length_replicate]
    have hlen : n * k ≤ c * k := Nat.mul_le_mul_right _ hnc
    apply List.ext_getElem?
    intro j
    by_cases hj : j < n * k
    · rw [List.getElem?_take, if_pos hj]
      have hm : j % k < k := Nat.mod_lt _ hk0
      have hi' : j / k < (List.replicate n z0).length := by rw [List.length_replicate]; exact Nat.div_lt_of_lt_mul (by rw [Nat.mul_comm]; exact hj)
      have h1 := flat_get hk (List.replicate n z0) (j / k) hi' (j % k) hm
      rw [Nat.mul_comm, Nat.div_add_mod] at h1
      rw [h1, List.getElem_replicate, ← hzc]
      have hjc : j < c * k := by omega
      simp [madeCells, hjc, hzl, hm]
    · rw [List.getElem?_eq_none (by rw [List.length_take]; omega), List.getElem?_eq_none (by rw [flat_length hk, List.length_replicate]; omega)]
theorem wpList_make_owns (w : World) {ops : Array Oper} {rest : List Oper} {o : Oper} {a : Act} {Q : Exit → Act → World → Prop}
    (hg : o.guard = none) (l c : Operand) (t : TypeId) (hop : o.op = Op.makeSlice t l c) (hk : ∀ x, (enc x).length = k) (z0 : α) (i : TypeInfo) (z : Value) (bytes : Nat) (ht : P.underlying t = some (.slice e)) (hi : P.info? e = some i) (hz : i.zero = some z) (hsize : i.size = k) (hby : i.bytes = bytes) (hzc : z.cells.toList = enc z0) (hk0 : 0 < k)
    (n cp : Nat) (hl : a.eval l = .int .i64 (n : Int)) (hc : a.eval c = .int .i64 (cp : Int)) (hnc : n ≤ cp) (hbytes : bytes * cp ≤ 281474976710656) (h63 : cp ≤ maxLen) (hb : base ≤ w.heap.size)
    (hK : ∀ cs, Owns enc k base e (w.alloc (.cells cs e)) (some ⟨w.heap.size, 0, none⟩) cp (List.replicate n z0) → wpList P ops Q rest (a.put o.dst (.slice (some ⟨w.heap.size, 0, none⟩) n cp)) (w.alloc (.cells cs e))) :
    wpList P ops Q (o :: rest) a w := by
  refine wpList_plain hg fun K hK' => ?_
  obtain ⟨cs, hrun, hown⟩ := run_make_owns (P := P) hk z0 t i z bytes ht hi hz hsize hby hzc hk0 w n cp hnc hbytes h63 hb
  unfold Oper.wp
  simp [execOp, hop, hl, hc, hrun, Result.andThen]
  exact hK' _ _ (hK cs hown)
end
end Go.Proofs.YtkpnffokjpgalaaGreat
/- Layer 46: Split of the program. -/
namespace Go.Proofs.YtkpnffokjpgalaaGreat
set_option linter.unusedVariables false
set_option linter.unusedSimpArgs false
open Go.RowKit Go.Sort
attribute [local go_sem ↓] Go.wp_at_zero Go.wp_at_succ

theorem infoRowsJ : (Tryz.prog.info? 82).map (fun i => (i.zero, i.size, i.bytes)) = some (some (.slice none 0 0), 1, 24) := by kernel_rfl
/-- What Split answers. -/
def SplitE (w : World) (o : List (List Pt) × Int) (e : Ending) (w' : World) : Prop := SinceOf w w' ∧ ∃ A' c' Y, e = .returned (.tuple #[.slice A' Y.length c', .int .i64 o.2]) ∧ vxs Y = o.1 ∧ IsRings w' A' c' Y
theorem splitE_err {w w' : World} {k : Int} (h : SinceOf w w') : SplitE w ([], k) (.returned (.tuple #[.slice none 0 0, .int .i64 k])) w' := ⟨h, none, 0, [], rfl, rfl, IsRings.nil _⟩
/-- Found gaps: a table of rows of pairs. -/
abbrev FoundAt (base : Nat) (P : Nat → Prop) (W : World) (A : Option Addr) (c : Nat) (F : List RgR) : Prop := RowsAt 82 83 base P W A c F
theorem found_next {E : List SegP} {G : List SegP} {j : Nat} (hj : j < G.length) (s : SegP) : foundP s (G.take (j + 1)) = foundP s (G.take j) ++ (if alongB s G[j] = true then [gpK s G[j]] else []) := by
  unfold foundP
  rw [List.take_succ_eq_append_getElem hj, List.filter_append, List.map_append]
  congr 1
  cases h : alongB s G[j] <;> simp [h]
theorem rowG_atT (W : World) (T : TypeId) (g : Nat) (x : RgR) (hg : W.heap.size = g) : IsRow encG 1 (W.alloc (.cells #[.slice x.A x.xs.length x.c] T)) (some ⟨g, 0, none⟩) 1 [x] := by
  subst hg
  have h : Owns encG 1 W.heap.size T (W.alloc (.cells #[.slice x.A x.xs.length x.c] T)) (some ⟨W.heap.size, 0, none⟩) 1 [x] := World.ownsRow_lit W _ 1 (Nat.le_refl _) (by decide) rfl
  exact h.isRow encG_len
theorem ownV_one (W : World) (x y : Int) : Owns encV 2 W.heap.size 25 (W.alloc (.cells #[.int .i64 x, .int .i64 y] 25)) (some ⟨W.heap.size, 0, none⟩) 1 [(x, y)] := World.ownsRow_lit W _ 1 (Nat.le_refl _) (by decide) rfl
/-- The first path. -/
theorem paths_one (W : World) (x y : Int) : PathsAt W.heap.size (W.heap.size + 2) ((W.alloc (.cells #[.int .i64 x, .int .i64 y] 25)).alloc (.cells #[.slice (some ⟨W.heap.size, 0, none⟩) 1 1] 22)) (some ⟨W.heap.size + 1, 0, none⟩) 1 [⟨some ⟨W.heap.size, 0, none⟩, 1, [(x, y)]⟩] := by
  have h1 : Owns encG 1 W.heap.size 22 ((W.alloc (.cells #[.int .i64 x, .int .i64 y] 25)).alloc (.cells #[.slice (some ⟨W.heap.size, 0, none⟩) 1 1] 22)) (some ⟨W.heap.size + 1, 0, none⟩) 1 [⟨some ⟨W.heap.size, 0, none⟩, 1, [(x, y)]⟩] := by
    have := World.ownsRow_lit (base := W.heap.size) (e := 22) (size := 1) (W.alloc (.cells #[.int .i64 x, .int .i64 y] 25)) #[.slice (some ⟨W.heap.size, 0, none⟩) 1 1] 1 (by simp) (by decide) rfl
    unfold Owns encG
    simpa using this
  refine ⟨h1, fun j hj => ?_, fun i j hi hj hne => ?_, fun j hj => ?_, fun b hb => ?_, fun j hj b hb => ?_⟩
  · obtain rfl : j = 0 := by simpa using hj
    exact (ownV_one W x y).alloc _
  · simp at hi hj; omega
  · obtain rfl : j = 0 := by simpa using hj
    intro b hb e
    simp [blockOf] at hb e
    omega
  · simp [blockOf] at hb
    omega
  · obtain rfl : j = 0 := by simpa using hj
    simp [blockOf] at hb
    omega
theorem vxs_append2 (X Y : List RgR) : vxs (X ++ Y) = vxs X ++ vxs Y := by unfold vxs; rw [List.map_append]
set_option maxRecDepth 100000 in
set_option maxHeartbeats 64000000 in
theorem split_any (A : Option Addr) (c : Nat) (r : List (Int × Int)) (at_ : Int) (gA : Option Addr) (gc : Nat) (G : List SegP) (w : World) (h : IsVecs w A c r) (hlen : r.length < 4611686018427387904) (hG : IsSegs w gA gc G) (hG12 : G.length ≤ 12) :
    Calls Tryz.prog 25 #[.slice A r.length c, .int .i64 at_, .slice gA G.length gc] w (SplitE w (splitR r at_ G)) := by
  have V := fun W (hW : SinceOf w W) => ringValid_any A c r W (h.of hW) hlen
  have H := Lib.hid (And.intro h hG)
  clear h hG
  obtain ⟨res, hres⟩ : ∃ t, t = splitR r at_ G := ⟨_, rfl⟩
  rw [← hres]
  have HR := Lib.hid hres
  clear hres
  cases hok : okB r
  · obtain rfl : res = ([], 11) := by rw [HR.out]; unfold splitR; rw [hok, if_neg Bool.false_ne_true]
    rw [hok] at V
    clear hok
    go_enter Tryz.func25, Tryz.ntmps25
    go_wp2_with fail
    refine (V _ (by (repeat (first | (with_reducible exact SinceOf.refl _) | (with_reducible assumption) | (with_reducible refine SinceOf.alloc ?_ _) | (with_reducible refine SinceOf.drew ?_) | (with_reducible refine SinceOf.drewN ?_ _) | (with_reducible refine SinceOf.later ?_ _) | (with_reducible refine SinceOf.further ?_ _) | (with_reducible refine SinceOf.setCell ?_ (by first | exact Nat.le_refl _ | (simp; done) | omega | (simp; omega)) _))))).calls.mono ?_
    rintro e _ ⟨rfl, x1, rfl⟩
    go_wp2_with fail
    go_returns
    exact splitE_err (by (repeat (first | (with_reducible exact SinceOf.refl _) | (with_reducible assumption) | (with_reducible refine SinceOf.alloc ?_ _) | (with_reducible refine SinceOf.drew ?_) | (with_reducible refine SinceOf.drewN ?_ _) | (with_reducible refine SinceOf.later ?_ _) | (with_reducible refine SinceOf.further ?_ _) | (with_reducible refine SinceOf.setCell ?_ (by first | exact Nat.le_refl _ | (simp; done) | omega | (simp; omega)) _))))
  rw [hok] at V
  by_cases ha0 : at_ < 0
  · obtain rfl : res = ([], 2) := by rw [HR.out]; unfold splitR; rw [hok, if_pos rfl, if_pos (.inl ha0)]
    have g1 : decide (at_ < 0) = true := decide_eq_true ha0
    clear hok
    go_enter Tryz.func25, Tryz.ntmps25
    go_wp2_with fail
    refine (V _ (by (repeat (first | (with_reducible exact SinceOf.refl _) | (with_reducible assumption) | (with_reducible refine SinceOf.alloc ?_ _) | (with_reducible refine SinceOf.drew ?_) | (with_reducible refine SinceOf.drewN ?_ _) | (with_reducible refine SinceOf.later ?_ _) | (with_reducible refine SinceOf.further ?_ _) | (with_reducible refine SinceOf.setCell ?_ (by first | exact Nat.le_refl _ | (simp; done) | omega | (simp; omega)) _))))).calls.mono ?_
    rintro e _ ⟨rfl, x1, rfl⟩
    go_wp2_with fail
    go_returns
    exact splitE_err (by (repeat (first | (with_reducible exact SinceOf.refl _) | (with_reducible assumption) | (with_reducible refine SinceOf.alloc ?_ _) | (with_reducible refine SinceOf.drew ?_) | (with_reducible refine SinceOf.drewN ?_ _) | (with_reducible refine SinceOf.later ?_ _) | (with_reducible refine SinceOf.further ?_ _) | (with_reducible refine SinceOf.setCell ?_ (by first | exact Nat.le_refl _ | (simp; done) | omega | (simp; omega)) _))))
  have g1 : decide (at_ < 0) = false := decide_eq_false ha0
  by_cases ha1 : (r.length : Int) ≤ at_
  · obtain rfl : res = ([], 2) := by rw [HR.out]; unfold splitR; rw [hok, if_pos rfl, if_pos (.inr ha1)]
    have g2 : decide ((r.length : Int) ≤ at_) = true := decide_eq_true ha1
    clear hok
    go_enter Tryz.func25, Tryz.ntmps25
    go_wp2_with fail
    refine (V _ (by (repeat (first | (with_reducible exact SinceOf.refl _) | (with_reducible assumption) | (with_reducible refine SinceOf.alloc ?_ _) | (with_reducible refine SinceOf.drew ?_) | (with_reducible refine SinceOf.drewN ?_ _) | (with_reducible refine SinceOf.later ?_ _) | (with_reducible refine SinceOf.further ?_ _) | (with_reducible refine SinceOf.setCell ?_ (by first | exact Nat.le_refl _ | (simp; done) | omega | (simp; omega)) _))))).calls.mono ?_
    rintro e _ ⟨rfl, x1, rfl⟩
    go_wp2_with fail
    go_returns
    exact splitE_err (by (repeat (first | (with_reducible exact SinceOf.refl _) | (with_reducible assumption) | (with_reducible refine SinceOf.alloc ?_ _) | (with_reducible refine SinceOf.drew ?_) | (with_reducible refine SinceOf.drewN ?_ _) | (with_reducible refine SinceOf.later ?_ _) | (with_reducible refine SinceOf.further ?_ _) | (with_reducible refine SinceOf.setCell ?_ (by first | exact Nat.le_refl _ | (simp; done) | omega | (simp; omega)) _))))
  have g2 : decide ((r.length : Int) ≤ at_) = false := decide_eq_false ha1
  obtain ⟨a, rfl⟩ : ∃ a : Nat, at_ = a := ⟨at_.toNat, by omega⟩
  have har : a < r.length := by omega
  have hk := okB_iff.1 hok
  have hE := okB_edgeN hok
  have hEl := okB_len40 hok
  have hlenE : (edgesV r).length = r.length := edgesV_len (by have := hk.three; omega)
  have hres2 : res = if properB (edgesV r) G then (walkP (tourP (edgesV r) G a) [at0 r a], 0) else ([], 1) := by rw [HR.out]; unfold splitR; rw [hok, if_pos rfl, if_neg (by omega)]; rfl
  have hone : ∀ i k (hi : i < (edgesV r).length) (hk : k < (edgesV r).length) g, alongB (edgesV r)[i] g = true → alongB (edgesV r)[k] g = true → i = k := fun i k hi hk g h1 h2 => along_one hok hi hk h1 h2
  have ED := fun W (hW : SinceOf w W) => ringEdges_any A c r W (H.out.1.of hW) (by have := hk.most; omega)
  obtain ⟨E, hEE⟩ : ∃ E, E = edgesV r := ⟨_, rfl⟩
  rw [← hEE] at hE hEl hlenE hres2 hone ED
  have HE := Lib.hid (And.intro hE.2 (And.intro hres2 (And.intro hone (And.intro hEE hlenE))))
  obtain ⟨hE3, hE40⟩ := hEl
  have haE : a < E.length := by omega
  clear hres2 hone hEE hlenE hE hk hok HR ha0 ha1
  obtain ⟨i0, hi, hz0, hz1, hz2⟩ := info_parts infoIvJ
  have HI := Lib.hid (And.intro hi (And.intro hz0 (And.intro hz1 hz2)))
  clear hi hz0 hz1 hz2
  obtain ⟨i1, hi, hz0, hz1, hz2⟩ := info_parts infoRowsJ
  have HI1 := Lib.hid (And.intro hi (And.intro hz0 (And.intro hz1 hz2)))
  clear hi hz0 hz1 hz2
  obtain ⟨i2, hi, hz0, hz1, hz2⟩ := info_parts infoRowJ
  have HI2 := Lib.hid (And.intro hi (And.intro hz0 (And.intro hz1 hz2)))
  clear hi hz0 hz1 hz2
  go_enter Tryz.func25, Tryz.ntmps25
  go_wp2_with fail
  refine (V _ (by (repeat (first | (with_reducible exact SinceOf.refl _) | (with_reducible assumption) | (with_reducible refine SinceOf.alloc ?_ _) | (with_reducible refine SinceOf.drew ?_) | (with_reducible refine SinceOf.drewN ?_ _) | (with_reducible refine SinceOf.later ?_ _) | (with_reducible refine SinceOf.further ?_ _) | (with_reducible refine SinceOf.setCell ?_ (by first | exact Nat.le_refl _ | (simp; done) | omega | (simp; omega)) _))))).calls.mono ?_
  rintro e _ ⟨rfl, x1, rfl⟩
  clear V
  go_wp2_with fail
  refine (ED _ (by (repeat (first | (with_reducible exact SinceOf.refl _) | (with_reducible assumption) | (with_reducible refine SinceOf.alloc ?_ _) | (with_reducible refine SinceOf.drew ?_) | (with_reducible refine SinceOf.drewN ?_ _) | (with_reducible refine SinceOf.later ?_ _) | (with_reducible refine SinceOf.further ?_ _) | (with_reducible refine SinceOf.setCell ?_ (by first | exact Nat.le_refl _ | (simp; done) | omega | (simp; omega)) _))))).mono ?_
  rintro e _ ⟨A8, c8, rfl, ho8, ⟨x3, rfl⟩⟩
  have H8 := Lib.hid (ho8.isRow encE_len)
  have hS3 : SinceOf w x3.wd := by (repeat (first | (with_reducible exact SinceOf.refl _) | (with_reducible assumption) | (with_reducible refine SinceOf.alloc ?_ _) | (with_reducible refine SinceOf.drew ?_) | (with_reducible refine SinceOf.drewN ?_ _) | (with_reducible refine SinceOf.later ?_ _) | (with_reducible refine SinceOf.further ?_ _) | (with_reducible refine SinceOf.setCell ?_ (by first | exact Nat.le_refl _ | (simp; done) | omega | (simp; omega)) _)))
  have H3 := Lib.hid hS3
  clear ED ho8 hS3
  go_wp2_with (refine wpList_make_owns _ rfl (.tmp 36) (.tmp 36) 79 rfl encG_len (⟨none, 0, []⟩ : RgR) i1 _ 24 Tryz.underlying79 HI1.out.1 HI1.out.2.1 HI1.out.2.2.1 HI1.out.2.2.2 rfl (by omega) (base := x3.wd.heap.size) E.length E.length rfl rfl (Nat.le_refl _) (by omega) (by unfold maxLen; omega) (by first | exact Nat.le_refl _ | simp) ?_; intro cs0 hown0)
  have hF0 : FoundAt x3.wd.heap.size (fun _ => True) (x3.wd.alloc (.cells cs0 82)) (some ⟨x3.wd.heap.size, 0, none⟩) E.length (List.replicate E.length ⟨none, 0, []⟩) := RowsAt.zero _ hown0 (fun _ _ => trivial)
  have HF0 := Lib.hid hF0
  clear hown0 hF0
  go_wp2_with fail
  go_loopg [40] G.length (fun gas s40 wr => ∃ (j : Nat) (F : List RgR), j ≤ G.length ∧ G.length - j ≤ gas ∧ s40 = .int .i64 j ∧ F.length = E.length ∧ (∀ i (hi : i < E.length) (hi2 : i < F.length), F[i].xs = foundP E[i] (G.take j)) ∧ (∀ g ∈ G.take j, E.any (fun s => alongB s g) = true) ∧ FoundAt x3.wd.heap.size (fun _ => True) wr (some ⟨x3.wd.heap.size, 0, none⟩) E.length F ∧ SinceOf x3.wd wr)
  case atStart => exact ⟨0, List.replicate E.length ⟨none, 0, []⟩, by omega, by omega, rfl, by simp, fun i hi hi2 => by rw [List.getElem_replicate]; simp [foundP], fun g hg => by simp at hg, HF0.out, by (repeat (first | (with_reducible exact SinceOf.refl _) | (with_reducible assumption) | (with_reducible refine SinceOf.alloc ?_ _) | (with_reducible refine SinceOf.drew ?_) | (with_reducible refine SinceOf.drewN ?_ _) | (with_reducible refine SinceOf.later ?_ _) | (with_reducible refine SinceOf.further ?_ _) | (with_reducible refine SinceOf.setCell ?_ (by first | exact Nat.le_refl _ | (simp; done) | omega | (simp; omega)) _)))⟩
  case round =>
    obtain ⟨j, F, hj, hgas, rfl, hFl, hFx, hal, hFA, ⟨z, rfl⟩⟩ := hrel
    have hzs := z.size
    by_cases hlt : j < G.length
    · have hx0 := H.out.2.of (w' := z.wd) (H3.out.trans (by (repeat (first | (with_reducible exact SinceOf.refl _) | (with_reducible assumption) | (with_reducible refine SinceOf.alloc ?_ _) | (with_reducible refine SinceOf.drew ?_) | (with_reducible refine SinceOf.drewN ?_ _) | (with_reducible refine SinceOf.later ?_ _) | (with_reducible refine SinceOf.further ?_ _) | (with_reducible refine SinceOf.setCell ?_ (by first | exact Nat.le_refl _ | (simp; done) | omega | (simp; omega)) _)))))
      obtain ⟨g, off, rfl, hr⟩ := hx0.at_ (by omega)
      have hO1 := hr.there
      have a0 := hr.e0 j hlt
      have a1 := hr.e1 j hlt
      have a2 := hr.e2 j hlt
      have a3 := hr.e3 j hlt
      have htk : G.take (j + 1) = G.take j ++ [G[j]] := List.take_succ_eq_append_getElem hlt
      have hfn := fun s => found_next (E := E) hlt s
      have hmem := List.getElem_mem hlt
      obtain ⟨y, hy⟩ : ∃ y, y = G[j] := ⟨_, rfl⟩
      rw [← hy] at a0 a1 a2 a3 htk hfn hmem
      have HJ := Lib.hid (And.intro htk (And.intro hfn (And.intro hFl (And.intro hFx (And.intro hal (And.intro hFA hmem))))))
      obtain ⟨⟨ya, yb⟩, yc, yd⟩ := y
      simp only at a0 a1 a2 a3
      have hseg : ∀ W, SinceOf (z.wd.alloc (.cells #[.int .i64 ya, .int .i64 yb, .int .i64 yc, .int .i64 yd] 27)) W → SegV W z.wd.heap.size ((ya, yb), (yc, yd)) := fun W hW => SegV.of ⟨by simp, by simp, by simp, by simp, by simp⟩ hW
      have IX := fun W (hW : SinceOf (z.wd.alloc (.cells #[.int .i64 ya, .int .i64 yb, .int .i64 yc, .int .i64 yd] 27)) W) => indexAlong_any A8 c8 E ((ya, yb), (yc, yd)) z.wd.heap.size W (H8.out.of (SinceOf.trans (show SinceOf x3.wd (z.wd.alloc (.cells #[.int .i64 ya, .int .i64 yb, .int .i64 yc, .int .i64 yd] 27)) by (repeat (first | (with_reducible exact SinceOf.refl _) | (with_reducible assumption) | (with_reducible refine SinceOf.alloc ?_ _) | (with_reducible refine SinceOf.drew ?_) | (with_reducible refine SinceOf.drewN ?_ _) | (with_reducible refine SinceOf.later ?_ _) | (with_reducible refine SinceOf.further ?_ _) | (with_reducible refine SinceOf.setCell ?_ (by first | exact Nat.le_refl _ | (simp; done) | omega | (simp; omega)) _)))) hW)) HE.out.1 (hseg W hW) (by omega)
      unfold IdxE at IX
      clear htk hfn hFl hFx hal hFA hr hx0 hy hmem
      go_wp2_with fail
      refine (IX _ (by (repeat (first | (with_reducible exact SinceOf.refl _) | (with_reducible assumption) | (with_reducible refine SinceOf.alloc ?_ _) | (with_reducible refine SinceOf.drew ?_) | (with_reducible refine SinceOf.drewN ?_ _) | (with_reducible refine SinceOf.later ?_ _) | (with_reducible refine SinceOf.further ?_ _) | (with_reducible refine SinceOf.setCell ?_ (by first | exact Nat.le_refl _ | (simp; done) | omega | (simp; omega)) _))))).mono ?_
      rintro e _ ⟨⟨z1, rfl⟩, ri, rfl, hri⟩
      have hz1 := z1.size
      (try simp only [World.size_alloc] at hz1)
      clear IX
      rcases hri with ⟨hneg, hnone⟩ | ⟨i, rfl, hi, hial⟩
      · obtain rfl : res = ([], 1) := by
          rw [HE.out.2.1, if_neg]
          intro hp
          unfold properB at hp
          rw [Bool.and_eq_true] at hp
          have := List.all_eq_true.1 hp.1 _ HJ.out.2.2.2.2.2.2
          rw [hnone] at this
          cases this
        have g3 : decide (ri < 0) = true := decide_eq_true hneg
        clear hnone
        go_wp2_with fail
        go_returns
        exact splitE_err (H3.out.trans (by (repeat (first | (with_reducible exact SinceOf.refl _) | (with_reducible assumption) | (with_reducible refine SinceOf.alloc ?_ _) | (with_reducible refine SinceOf.drew ?_) | (with_reducible refine SinceOf.drewN ?_ _) | (with_reducible refine SinceOf.later ?_ _) | (with_reducible refine SinceOf.further ?_ _) | (with_reducible refine SinceOf.setCell ?_ (by first | exact Nat.le_refl _ | (simp; done) | omega | (simp; omega)) _)))))
      · have hFl := HJ.out.2.2.1
        have hfat := (HJ.out.2.2.2.2.2.1.of (W' := z1.wd) (by (repeat (first | (with_reducible exact SinceOf.refl _) | (with_reducible assumption) | (with_reducible refine SinceOf.alloc ?_ _) | (with_reducible refine SinceOf.drew ?_) | (with_reducible refine SinceOf.drewN ?_ _) | (with_reducible refine SinceOf.later ?_ _) | (with_reducible refine SinceOf.further ?_ _) | (with_reducible refine SinceOf.setCell ?_ (by first | exact Nat.le_refl _ | (simp; done) | omega | (simp; omega)) _)))))
        have hFi : i < F.length := by omega
        have hrow := H8.out.of (w' := z1.wd) (by (repeat (first | (with_reducible exact SinceOf.refl _) | (with_reducible assumption) | (with_reducible refine SinceOf.alloc ?_ _) | (with_reducible refine SinceOf.drew ?_) | (with_reducible refine SinceOf.drewN ?_ _) | (with_reducible refine SinceOf.later ?_ _) | (with_reducible refine SinceOf.further ?_ _) | (with_reducible refine SinceOf.setCell ?_ (by first | exact Nat.le_refl _ | (simp; done) | omega | (simp; omega)) _))))
        obtain ⟨g8, o8, rfl, hr8⟩ := hrow.at_ (by omega)
        have hO8 := hr8.there
        have hg8 : g8 < x3.wd.heap.size := H8.out.block_lt (by omega) rfl
        have hxz := fun b e => ((HJ.out.2.2.2.2.2.1.rows i hFi).below b e).2
        have e0 := hr8.e0 i hi
        have e1 := hr8.e1 i hi
        have e2 := hr8.e2 i hi
        have e3 := hr8.e3 i hi
        have hN := HE.out.1 _ (List.getElem_mem hi)
        obtain ⟨gg, oo, egg, hrt⟩ := (hfat.own.isRow encG_len).at_ (by omega)
        injection egg with egg
        injection egg with q1 q2 q3
        subst q1 q2
        have k0 := hrt.g0 i hFi
        rw [Nat.zero_add] at k0
        have hO9 := hrt.there
        have hxi := hfat.rows i hFi
        have hxl : F[i].xs.length ≤ 12 := by
          rw [HJ.out.2.2.2.1 i hi hFi]
          have := foundP_len E[i] (G.take j)
          rw [List.length_take] at this
          omega
        have hsv := hseg z1.wd (by (repeat (first | (with_reducible exact SinceOf.refl _) | (with_reducible assumption) | (with_reducible refine SinceOf.alloc ?_ _) | (with_reducible refine SinceOf.drew ?_) | (with_reducible refine SinceOf.drewN ?_ _) | (with_reducible refine SinceOf.later ?_ _) | (with_reducible refine SinceOf.further ?_ _) | (with_reducible refine SinceOf.setCell ?_ (by first | exact Nat.le_refl _ | (simp; done) | omega | (simp; omega)) _))))
        obtain ⟨s0, s1, s2, s3, s4⟩ := hsv
        simp only at s0 s1 s2 s3
        have os : Nonempty (Old z1.wd z.wd.heap.size) := ⟨⟨s4⟩⟩
        obtain ⟨la, lb, hla, hab, hlb, hgp, hye⟩ := (along_iff hN).1 hial
        have n1 : near4 (ya, yb) := by have := congrArg Prod.fst hye; simp only at this; rw [this]; exact point_near hN (by omega) (by omega)
        have n2 : near4 (yc, yd) := by have := congrArg Prod.snd hye; simp only at this; rw [this]; exact point_near hN (by omega) (by omega)
        have P1 := place_any E[i] (ya, yb) (segN_ok hN) hN.1 n1
        have P2 := place_any E[i] (yc, yd) (segN_ok hN) hN.1 n2
        have hgp1 : placeK E[i].1 E[i].2 (ya, yb) = la ∧ placeK E[i].1 E[i].2 (yc, yd) = lb := by
          unfold gpK at hgp
          exact ⟨congrArg Prod.fst hgp, congrArg Prod.snd hgp⟩
        rw [hgp1.1] at P1
        rw [hgp1.2] at P2
        have fg : z1.wd.frozen? ⟨x3.wd.heap.size, i, none⟩ = false := hfat.own.free0 i
        obtain ⟨xi, hxe⟩ : ∃ xi, xi = F[i] := ⟨_, rfl⟩
        rw [← hxe] at k0 hxi hxl hxz
        have HK := Lib.hid (And.intro hfat (And.intro hxe (And.intro hxi (And.intro hial (And.intro hgp hxz)))))
        change ∀ w, Gives _ _ #[sg E[i].1.1 E[i].1.2 E[i].2.1 E[i].2.2, vv ya yb] w _ at P1
        change ∀ w, Gives _ _ #[sg E[i].1.1 E[i].1.2 E[i].2.1 E[i].2.2, vv yc yd] w _ at P2
        obtain ⟨sv, hsv⟩ : ∃ sv, sv = E[i] := ⟨_, rfl⟩
        rw [← hsv] at e0 e1 e2 e3 P1 P2 HK
        have HSV := Lib.hid hsv
        clear hgp1 hgp hye n1 n2 hN hrt hr8 hrow hfat hFl hxe hxi hial hsv hxz
        obtain ⟨⟨ax, ay⟩, bx, by'⟩ := sv
        obtain ⟨xA, xcc, xs⟩ := xi
        simp only at e0 e1 e2 e3 P1 P2 k0 hxl
        have b1 : (0 : Int) ≤ i := by omega
        have b2 : (i : Int) < E.length := by omega
        have g3 : decide ((i : Int) < 0) = false := decide_eq_false (by omega)
        go_wp2_with fail
        refine regionL [24] (S := (fun w' => (w'.cell? ⟨x3.wd.heap.size, i, none⟩ = some (.slice xA xs.length xcc)) ∧ (w'.cell? ⟨g8, o8 + i * 4, none⟩ = some (.int .i64 ax) ∧ w'.cell? ⟨g8, o8 + i * 4 + 1, none⟩ = some (.int .i64 ay) ∧ w'.cell? ⟨g8, o8 + i * 4 + 2, none⟩ = some (.int .i64 bx) ∧ w'.cell? ⟨g8, o8 + i * 4 + 3, none⟩ = some (.int .i64 by')) ∧ (w'.cell? ⟨z.wd.heap.size, 0, none⟩ = some (.int .i64 ya) ∧ w'.cell? ⟨z.wd.heap.size, 1, none⟩ = some (.int .i64 yb) ∧ w'.cell? ⟨z.wd.heap.size, 2, none⟩ = some (.int .i64 yc) ∧ w'.cell? ⟨z.wd.heap.size, 3, none⟩ = some (.int .i64 yd)))) (by kernel_rfl) ?_ (fun hHeld0 => ?_)
        · simp [go_sem, *]
        refine takeL (i := 0) (d := some 49) (v := ?_) rfl rfl (by kernel_rfl) (by kernel_rfl) (by kernel_rfl) (by kernel_rfl) (by kernel_rfl) (fun _ _ _ h => h) (Or.inl ⟨by rfl, ?_⟩) (by assumption) ?_
        rotate_left 1
        · (intro w hSw; (try dsimp only at hSw); go_simp) <;> (with_reducible rfl)
        (try simp only [Act.put, List.setIfInBounds_toArray, List.set_cons_zero, List.set_cons_succ])
        refine takeL (i := 1) (d := some 50) (v := ?_) rfl rfl (by kernel_rfl) (by kernel_rfl) (by kernel_rfl) (by kernel_rfl) (by kernel_rfl) (fun _ _ _ h => h) (Or.inl ⟨by rfl, ?_⟩) (by assumption) ?_
        rotate_left 1
        · (intro w hSw; (try dsimp only at hSw); go_simp) <;> (with_reducible rfl)
        (try simp only [Act.put, List.setIfInBounds_toArray, List.set_cons_zero, List.set_cons_succ])
        refine takeL (i := 2) (d := some 51) (v := ?_) rfl rfl (by kernel_rfl) (by kernel_rfl) (by kernel_rfl) (by kernel_rfl) (by kernel_rfl) (fun _ _ _ h => h) (Or.inl ⟨by rfl, ?_⟩) (by assumption) ?_
        rotate_left 1
        · (intro w hSw; (try dsimp only at hSw); go_simp) <;> (with_reducible rfl)
        (try simp only [Act.put, List.setIfInBounds_toArray, List.set_cons_zero, List.set_cons_succ])
        refine takeL (i := 3) (d := some 52) (v := ?_) rfl rfl (by kernel_rfl) (by kernel_rfl) (by kernel_rfl) (by kernel_rfl) (by kernel_rfl) (fun _ _ _ h => h) (Or.inl ⟨by rfl, ?_⟩) (by assumption) ?_
        rotate_left 1
        · (intro w hSw; (try dsimp only at hSw); go_simp) <;> (with_reducible rfl)
        (try simp only [Act.put, List.setIfInBounds_toArray, List.set_cons_zero, List.set_cons_succ])
        refine takeL (i := 4) (d := some 53) (v := ?_) rfl rfl (by kernel_rfl) (by kernel_rfl) (by kernel_rfl) (by kernel_rfl) (by kernel_rfl) (fun _ _ _ h => h) (Or.inl ⟨by rfl, ?_⟩) (by assumption) ?_
        rotate_left 1
        · (intro w hSw; (try dsimp only at hSw); go_simp) <;> (with_reducible rfl)
        (try simp only [Act.put, List.setIfInBounds_toArray, List.set_cons_zero, List.set_cons_succ])
        refine takeL (i := 5) (d := some 54) (v := ?_) rfl rfl (by kernel_rfl) (by kernel_rfl) (by kernel_rfl) (by kernel_rfl) (by kernel_rfl) (fun _ _ _ h => h) (Or.inl ⟨by rfl, ?_⟩) (by assumption) ?_
        rotate_left 1
        · (intro w hSw; (try dsimp only at hSw); go_simp) <;> (with_reducible rfl)
        (try simp only [Act.put, List.setIfInBounds_toArray, List.set_cons_zero, List.set_cons_succ])
        refine takeL (i := 6) (d := some 55) (v := ?_) rfl rfl (by kernel_rfl) (by kernel_rfl) (by kernel_rfl) (by kernel_rfl) (by kernel_rfl) (fun _ _ _ h => h) (Or.inl ⟨by rfl, ?_⟩) (by assumption) ?_
        rotate_left 1
        · (intro w hSw; (try dsimp only at hSw); go_simp) <;> (with_reducible rfl)
        (try simp only [Act.put, List.setIfInBounds_toArray, List.set_cons_zero, List.set_cons_succ])
        refine takeL (i := 7) (d := some 56) (v := ?_) rfl rfl (by kernel_rfl) (by kernel_rfl) (by kernel_rfl) (by kernel_rfl) (by kernel_rfl) (fun _ _ _ h => h) (Or.inl ⟨by rfl, ?_⟩) (by assumption) ?_
        rotate_left 1
        · (intro w hSw; (try dsimp only at hSw); go_simp) <;> (with_reducible rfl)
        (try simp only [Act.put, List.setIfInBounds_toArray, List.set_cons_zero, List.set_cons_succ])
        refine takeL (i := 8) (d := some 57) (v := ?_) rfl rfl (by kernel_rfl) (by kernel_rfl) (by kernel_rfl) (by kernel_rfl) (by kernel_rfl) (fun _ _ _ h => h) (Or.inl ⟨by rfl, ?_⟩) (by assumption) ?_
        rotate_left 1
        · (intro w hSw; (try dsimp only at hSw); go_simp) <;> (with_reducible rfl)
        (try simp only [Act.put, List.setIfInBounds_toArray, List.set_cons_zero, List.set_cons_succ])
        refine takeL (i := 9) (d := some 58) (v := ?_) rfl rfl (by kernel_rfl) (by kernel_rfl) (by kernel_rfl) (by kernel_rfl) (by kernel_rfl) (fun _ _ _ h => h) (Or.inl ⟨by rfl, ?_⟩) (by assumption) ?_
        rotate_left 1
        · (intro w hSw; (try dsimp only at hSw); go_simp) <;> (with_reducible rfl)
        (try simp only [Act.put, List.setIfInBounds_toArray, List.set_cons_zero, List.set_cons_succ])
        refine takeL (i := 10) (d := some 59) (v := ?_) rfl rfl (by kernel_rfl) (by kernel_rfl) (by kernel_rfl) (by kernel_rfl) (by kernel_rfl) (fun _ _ _ h => h) (Or.inl ⟨by rfl, ?_⟩) (by assumption) ?_
        rotate_left 1
        · (intro w hSw; (try dsimp only at hSw); go_simp) <;> (with_reducible rfl)
        (try simp only [Act.put, List.setIfInBounds_toArray, List.set_cons_zero, List.set_cons_succ])
        refine takeL (i := 11) (d := some 60) (v := ?_) rfl rfl (by kernel_rfl) (by kernel_rfl) (by kernel_rfl) (by kernel_rfl) (by kernel_rfl) (fun _ _ _ h => h) (Or.inl ⟨by rfl, ?_⟩) (by assumption) ?_
        rotate_left 1
        · (intro w hSw; (try dsimp only at hSw); go_simp) <;> (with_reducible rfl)
        (try simp only [Act.put, List.setIfInBounds_toArray, List.set_cons_zero, List.set_cons_succ])
        refine takeL (i := 13) (d := some 62) (v := ?_) rfl rfl (by kernel_rfl) (by kernel_rfl) (by kernel_rfl) (by kernel_rfl) (by kernel_rfl) (fun _ _ _ h => h) (Or.inl ⟨by rfl, ?_⟩) (by assumption) ?_
        rotate_left 1
        · (intro w hSw; (try dsimp only at hSw); go_simp) <;> (with_reducible rfl)
        (try simp only [Act.put, List.setIfInBounds_toArray, List.set_cons_zero, List.set_cons_succ])
        refine takeL (i := 14) (d := some 63) (v := ?_) rfl rfl (by kernel_rfl) (by kernel_rfl) (by kernel_rfl) (by kernel_rfl) (by kernel_rfl) (fun _ _ _ h => h) (Or.inl ⟨by rfl, ?_⟩) (by assumption) ?_
        rotate_left 1
        · (intro w hSw; (try dsimp only at hSw); go_simp) <;> (with_reducible rfl)
        (try simp only [Act.put, List.setIfInBounds_toArray, List.set_cons_zero, List.set_cons_succ])
        refine takeL (i := 15) (d := some 64) (v := ?_) rfl rfl (by kernel_rfl) (by kernel_rfl) (by kernel_rfl) (by kernel_rfl) (by kernel_rfl) (fun _ _ _ h => h) (Or.inl ⟨by rfl, ?_⟩) (by assumption) ?_
        rotate_left 1
        · (intro w hSw; (try dsimp only at hSw); go_simp) <;> (with_reducible rfl)
        (try simp only [Act.put, List.setIfInBounds_toArray, List.set_cons_zero, List.set_cons_succ])
        refine takeL (i := 16) (d := some 65) (v := ?_) rfl rfl (by kernel_rfl) (by kernel_rfl) (by kernel_rfl) (by kernel_rfl) (by kernel_rfl) (fun _ _ _ h => h) (Or.inl ⟨by rfl, ?_⟩) (by assumption) ?_
        rotate_left 1
        · (intro w hSw; (try dsimp only at hSw); go_simp) <;> (with_reducible rfl)
        (try simp only [Act.put, List.setIfInBounds_toArray, List.set_cons_zero, List.set_cons_succ])
        refine takeL (i := 17) (d := some 66) (v := ?_) rfl rfl (by kernel_rfl) (by kernel_rfl) (by kernel_rfl) (by kernel_rfl) (by kernel_rfl) (fun _ _ _ h => h) (Or.inl ⟨by rfl, ?_⟩) (by assumption) ?_
        rotate_left 1
        · (intro w hSw; (try dsimp only at hSw); go_simp) <;> (with_reducible rfl)
        (try simp only [Act.put, List.setIfInBounds_toArray, List.set_cons_zero, List.set_cons_succ])
        refine takeL (i := 18) (d := some 67) (v := ?_) rfl rfl (by kernel_rfl) (by kernel_rfl) (by kernel_rfl) (by kernel_rfl) (by kernel_rfl) (fun _ _ _ h => h) (Or.inl ⟨by rfl, ?_⟩) (by assumption) ?_
        rotate_left 1
        · (intro w hSw; (try dsimp only at hSw); go_simp) <;> (with_reducible rfl)
        (try simp only [Act.put, List.setIfInBounds_toArray, List.set_cons_zero, List.set_cons_succ])
        refine stepL (i := 12) (by kernel_rfl) rfl (fun K' hK => ?_)
        go_simp
        refine (P1 _).calls.mono ?_
        rintro e _ ⟨rfl, y1, rfl⟩
        go_wp2_with fail
        refine hK.out _ _ ?_ (fun hHeld1 => ?_)
        · simp [go_sem, *]
        clear hK K' hHeld0
        refine stepL (i := 19) (by kernel_rfl) rfl (fun K' hK => ?_)
        go_simp
        refine (P2 _).calls.mono ?_
        rintro e _ ⟨rfl, y2, rfl⟩
        go_wp2_with fail
        refine hK.out _ _ ?_ (fun hHeld2 => ?_)
        · simp [go_sem, *]
        clear hK K' hHeld1
        refine takeL (i := 20) (d := some 69) (v := ?_) rfl rfl (by kernel_rfl) (by kernel_rfl) (by kernel_rfl) (by kernel_rfl) (by kernel_rfl) (fun _ _ _ h => h) (Or.inl ⟨by rfl, ?_⟩) (by assumption) ?_
        rotate_left 1
        · (intro w hSw; (try dsimp only at hSw); go_simp) <;> (with_reducible rfl)
        (try simp only [Act.put, List.setIfInBounds_toArray, List.set_cons_zero, List.set_cons_succ])
        refine stepL (i := 21) (by kernel_rfl) rfl (fun K' hK => ?_)
        go_simp
        refine hK.out _ _ ?_ (fun hHeld3 => ?_)
        · simp [go_sem, *]
        clear hK K' hHeld2
        refine stepL (i := 22) (by kernel_rfl) rfl (fun K' hK => ?_)
        obtain ⟨W1, hW1⟩ : ∃ W1, W1 = (y2.wd.alloc (.cells #[.int .i64 la, .int .i64 lb] 83)) := ⟨_, rfl⟩
        rw [← hW1]
        have hS1 : SinceOf z1.wd W1 := by rw [hW1]; (repeat (first | (with_reducible exact SinceOf.refl _) | (with_reducible assumption) | (with_reducible refine SinceOf.alloc ?_ _) | (with_reducible refine SinceOf.drew ?_) | (with_reducible refine SinceOf.drewN ?_ _) | (with_reducible refine SinceOf.later ?_ _) | (with_reducible refine SinceOf.further ?_ _) | (with_reducible refine SinceOf.setCell ?_ (by first | exact Nat.le_refl _ | (simp; done) | omega | (simp; omega)) _)))
        have hz2 := y2.size
        have hz3 := y1.size
        (try simp only [World.size_drew] at hz3)
        have hzW : W1.heap.size = y2.wd.heap.size + 1 := by rw [hW1]; simp
        have hm1 : IsVecs W1 (some ⟨y2.wd.heap.size, 0, none⟩) 1 [(la, lb)] := by rw [hW1]; exact isRow_atJ _ _ _ _ rfl
        have hfW := HK.out.1.of hS1
        refine step_append_row (w := W1) (by rfl) (.tmp 54) (.tmp 70) 82 (by rfl) encV_len (by omega) encV_one i0 _ 16 Tryz.underlying82 HI.out.1 HI.out.2.1 HI.out.2.2.1 HI.out.2.2.2 rfl (l := xs) (A := xA) (c := xcc) (base := x3.wd.heap.size) rfl (HK.out.2.2.1.of hS1) (m := [(la, lb)]) (by rfl) hm1 (by unfold maxLen; simp; omega) (by simp; omega) (by omega) ?_
        intro A6 c6 w6 ho6 hgr6 hb6
        have hput := RowsAt.put hfW (i := i) hFi (A' := A6) (c' := c6) (m := xs ++ [(la, lb)]) (W' := w6) ho6 (by rw [← HK.out.2.1]; exact hgr6) (by rw [← HK.out.2.1]; exact hb6) trivial
        have hxg : blockOf xA ≠ some x3.wd.heap.size := fun e => by have := hfW.tab i hFi x3.wd.heap.size; rw [← HK.out.2.1] at this; exact this e rfl
        have hxb : ∀ b, blockOf xA = some b → x3.wd.heap.size ≤ b := fun b e => (HK.out.2.2.1.below b e).1
        have hB6 : SinceOf x3.wd w6 := SinceOf.grown (SinceOf.trans (by (repeat (first | (with_reducible exact SinceOf.refl _) | (with_reducible assumption) | (with_reducible refine SinceOf.alloc ?_ _) | (with_reducible refine SinceOf.drew ?_) | (with_reducible refine SinceOf.drewN ?_ _) | (with_reducible refine SinceOf.later ?_ _) | (with_reducible refine SinceOf.further ?_ _) | (with_reducible refine SinceOf.setCell ?_ (by first | exact Nat.le_refl _ | (simp; done) | omega | (simp; omega)) _)))) hS1) hgr6 hxb
        have k6 : w6.cell? ⟨x3.wd.heap.size, i, none⟩ = some (.slice xA xs.length xcc) := hgr6.cell (by rw [hW1]; simp [go_sem, *]) (fun e => hxg e.symm)
        have f6 : w6.frozen? ⟨x3.wd.heap.size, i, none⟩ = false := (hfW.own.kept hgr6 (.inr (fun e => hxg e.symm))).free0 i
        have hx8 : some g8 ≠ blockOf xA := fun e => by have := hxb _ e.symm; omega
        have hxq : some z.wd.heap.size ≠ blockOf xA := fun e => by have := HK.out.2.2.2.2.2 _ e.symm; omega
        have m8 : ∀ q v, z1.wd.cell? ⟨g8, q, none⟩ = some v → w6.cell? ⟨g8, q, none⟩ = some v := fun q v e => hgr6.cell (by rw [hW1]; simp [go_sem, e]) hx8
        have mq : ∀ q v, z1.wd.cell? ⟨z.wd.heap.size, q, none⟩ = some v → w6.cell? ⟨z.wd.heap.size, q, none⟩ = some v := fun q v e => hgr6.cell (by rw [hW1]; simp [go_sem, e]) hxq
        have hP6 := Lib.hid (And.intro hput hB6)
        have hz6 := hgr6.size
        have o6 : Nonempty (Old w6 x3.wd.heap.size) := ⟨⟨by omega⟩⟩
        refine hK.out _ _ ⟨k6, ⟨m8 _ _ e0, m8 _ _ e1, m8 _ _ e2, m8 _ _ e3⟩, mq _ _ s0, mq _ _ s1, mq _ _ s2, mq _ _ s3⟩ (fun hHeld4 => ?_)
        clear hK K' hHeld3 hput hB6 ho6 hgr6 hb6 hm1 hW1 hfW m8 mq
        refine takeL (i := 23) (d := some 72) (v := ?_) rfl rfl (by kernel_rfl) (by kernel_rfl) (by kernel_rfl) (by kernel_rfl) (by kernel_rfl) (fun _ _ _ h => h) (Or.inl ⟨by rfl, ?_⟩) (by assumption) ?_
        rotate_left 1
        · (intro w hSw; (try dsimp only at hSw); go_simp) <;> (with_reducible rfl)
        (try simp only [Act.put, List.setIfInBounds_toArray, List.set_cons_zero, List.set_cons_succ])
        refine lastL (i := 24) (by kernel_rfl) (by rfl) rfl (fun K' hK => ?_)
        go_simp
        refine hK.out _ _ ?_
        refine doneL (by kernel_rfl) ?_ _
        go_wp2_with fail
        go_roundg (G.length - (j + 1))
        case measure => omega
        case rel =>
          refine ⟨j + 1, F.set i ⟨A6, c6, xs ++ [(la, lb)]⟩, hlt, Nat.le_refl _, by go_num, by rw [List.length_set]; exact HJ.out.2.2.1, ?_, ?_, ?_, ?_⟩
          · intro i' hi' hi2
            rw [HJ.out.2.1]
            by_cases e : i = i'
            · subst e
              rw [List.getElem_set_self, ← HSV.out, if_pos HK.out.2.2.2.1, HK.out.2.2.2.2.1]
              have := HJ.out.2.2.2.1 i hi' hFi
              rw [← HK.out.2.1, ← HSV.out] at this
              rw [← this]
            · rw [List.getElem_set_ne e, if_neg, List.append_nil]
              · exact HJ.out.2.2.2.1 i' hi' _
              · intro q
                have q2 := HK.out.2.2.2.1
                rw [HSV.out] at q2
                exact e (HE.out.2.2.1 i i' hi hi' _ q2 q)
          · intro q hq
            rw [HJ.out.1] at hq
            rcases List.mem_append.1 hq with hq | hq
            · exact HJ.out.2.2.2.2.1 q hq
            · rw [List.mem_singleton] at hq
              subst hq
              have q2 := HK.out.2.2.2.1
              rw [HSV.out] at q2
              exact List.any_eq_true.2 ⟨_, List.getElem_mem hi, q2⟩
          · have := hP6.out.1
            rw [List.length_append, List.length_singleton] at this
            exact this
          · exact hP6.out.2.setCell (Nat.le_refl _) _
    · obtain rfl : j = G.length := by omega
      rw [List.take_length] at hFx hal
      have HF := Lib.hid (And.intro hFl (And.intro hFx (And.intro hal hFA)))
      clear hFl hFx hal hFA
      have hsz : SinceOf w z.wd := H3.out.trans (by (repeat (first | (with_reducible exact SinceOf.refl _) | (with_reducible assumption) | (with_reducible refine SinceOf.alloc ?_ _) | (with_reducible refine SinceOf.drew ?_) | (with_reducible refine SinceOf.drewN ?_ _) | (with_reducible refine SinceOf.later ?_ _) | (with_reducible refine SinceOf.further ?_ _) | (with_reducible refine SinceOf.setCell ?_ (by first | exact Nat.le_refl _ | (simp; done) | omega | (simp; omega)) _))))
      have hv0 := H.out.1.of (w' := z.wd) hsz
      obtain ⟨gr, offr, rfl, hr⟩ := hv0.at_ (by omega)
      have hOr := hr.there
      have p0 := hr.v0 a har
      have p1 := hr.v1 a har
      have hat : at0 r a = r[a] := at0_eq har
      obtain ⟨pt, hpt⟩ : ∃ pt, pt = r[a] := ⟨_, rfl⟩
      rw [← hpt] at p0 p1 hat
      have hres2 := HE.out.2.1
      rw [hat] at hres2
      obtain ⟨px, py⟩ := pt
      simp only at p0 p1
      obtain ⟨PTH, hPTH⟩ : ∃ t, t = walkP (tourP E G a) [(px, py)] := ⟨_, rfl⟩
      rw [← hPTH] at hres2
      have HP := Lib.hid (And.intro hres2 hPTH)
      have b3 : (0 : Int) ≤ a := by omega
      have b4 : (a : Int) < r.length := by omega
      clear hv0 hr hat hpt hres2 hPTH hsz
      go_upto_region 15 with fail
      go_cut [13] from 74 to 79 (fun s13 wx => ∃ (b0 g c2 : Nat) (x : RgR), s13 = .pointer (some ⟨b0, 0, none⟩) ∧ z.wd.heap.size ≤ b0 ∧ x.xs = [(px, py)] ∧ PathsAt z.wd.heap.size b0 wx (some ⟨g, 0, none⟩) c2 [x] ∧ VarS wx b0 (.slice (some ⟨g, 0, none⟩) 1 c2) ∧ SinceOf z.wd wx)
      case first =>
        have hone := paths_one z.wd px py
        have HO := Lib.hid hone
        clear hone
        go_wp2_with fail
        go_meet
        refine ⟨z.wd.heap.size + 2, z.wd.heap.size + 1, 1, ⟨some ⟨z.wd.heap.size, 0, none⟩, 1, [(px, py)]⟩, rfl, by omega, rfl, HO.out.of (by (repeat (first | (with_reducible exact SinceOf.refl _) | (with_reducible assumption) | (with_reducible refine SinceOf.alloc ?_ _) | (with_reducible refine SinceOf.drew ?_) | (with_reducible refine SinceOf.drewN ?_ _) | (with_reducible refine SinceOf.later ?_ _) | (with_reducible refine SinceOf.further ?_ _) | (with_reducible refine SinceOf.setCell ?_ (by first | exact Nat.le_refl _ | (simp; done) | omega | (simp; omega)) _)))), ?_, by (repeat (first | (with_reducible exact SinceOf.refl _) | (with_reducible assumption) | (with_reducible refine SinceOf.alloc ?_ _) | (with_reducible refine SinceOf.drew ?_) | (with_reducible refine SinceOf.drewN ?_ _) | (with_reducible refine SinceOf.later ?_ _) | (with_reducible refine SinceOf.further ?_ _) | (with_reducible refine SinceOf.setCell ?_ (by first | exact Nat.le_refl _ | (simp; done) | omega | (simp; omega)) _)))⟩
        exact ⟨by simp [go_sem], by simp [go_sem], by simp [go_sem]⟩
      case rest =>
        obtain ⟨b0, g, c2, x, rfl, hb0, hxs, hPA, hVS, ⟨z4, rfl⟩⟩ := hcut
        have hz4 := z4.size
        have hF4 : FoundAt x3.wd.heap.size (fun b => b < z.wd.heap.size) z4.wd (some ⟨x3.wd.heap.size, 0, none⟩) E.length F := RowsAt.of (RowsAt.mono HF.out.2.2.2 (fun b _ h _ => h)) ⟨z4, rfl⟩
        have HX := Lib.hid (And.intro hxs (And.intro hPA (And.intro hVS hF4)))
        clear hxs hPA hVS hF4 p0 p1
        go_wp2_with fail
        go_loopg [83] E.length (fun gas s83 wr => ∃ (n g c2 : Nat) (Y : List RgR) (x : RgR) (F : List RgR), n ≤ E.length ∧ E.length - n ≤ gas ∧ s83 = .int .i64 n ∧ vxs Y ++ walkP ((tourP E G a).drop n) x.xs = PTH ∧ (∀ m, m < n → apartP (foundP (edgeAt E ((a + m) % E.length)) G) = true) ∧ Y.length ≤ n * 12 ∧ x.xs.length ≤ n + 1 ∧ F.length = E.length ∧ (∀ i (hi : i < E.length) (hi2 : i < F.length), F[i].xs.Perm (foundP E[i] G)) ∧ FoundAt x3.wd.heap.size (fun b => b < z.wd.heap.size) wr (some ⟨x3.wd.heap.size, 0, none⟩) E.length F ∧ PathsAt z.wd.heap.size b0 wr (some ⟨g, 0, none⟩) c2 (Y ++ [x]) ∧ VarS wr b0 (.slice (some ⟨g, 0, none⟩) (Y.length + 1) c2) ∧ SinceOf x3.wd wr ∧ z.wd.heap.size ≤ wr.heap.size ∧ ∀ j (hj : j < Y.length), Y[j].xs.length ≤ 1000)
        case atStart => exact ⟨0, g, c2, [], x, F, by omega, by omega, rfl, by rw [HX.out.1, HP.out.2]; simp [vxs], fun m hm => by omega, by simp, by rw [HX.out.1]; simp, HF.out.1, fun i hi hi2 => by rw [HF.out.2.1 i hi hi2], HX.out.2.2.2, HX.out.2.1, HX.out.2.2.1, by (repeat (first | (with_reducible exact SinceOf.refl _) | (with_reducible assumption) | (with_reducible refine SinceOf.alloc ?_ _) | (with_reducible refine SinceOf.drew ?_) | (with_reducible refine SinceOf.drewN ?_ _) | (with_reducible refine SinceOf.later ?_ _) | (with_reducible refine SinceOf.further ?_ _) | (with_reducible refine SinceOf.setCell ?_ (by first | exact Nat.le_refl _ | (simp; done) | omega | (simp; omega)) _))), hz4, fun j hj => by simp at hj⟩
        case round =>
          obtain ⟨n, g, c2, Y, x, F, hn, hgas, rfl, hfin, hapt, hYl, hxl, hFl, hFp, hFA, hPA, hVS, ⟨v, rfl⟩, hvz, hYs⟩ := hrel
          by_cases hlt2 : n < E.length
          · obtain ⟨q, hq⟩ : ∃ q, q = (a + n) % E.length := ⟨_, rfl⟩
            have hqE : q < E.length := by rw [hq]; exact Nat.mod_lt _ (by omega)
            have hqF : q < F.length := by omega
            have hqt : Int.tmod ((a : Int) + n) (E.length : Int) = (q : Int) := by rw [hq, Int.tmod_eq_emod_of_nonneg (by omega), Int.natCast_emod, Int.natCast_add]
            have hqe : ((a : Int) + n) % (E.length : Int) = (q : Int) := by rw [hq, Int.natCast_emod, Int.natCast_add]
            have hn0 : ¬ (E.length : Int) = 0 := by omega
            have hnE : ¬ E = [] := fun e => by rw [e] at hlt2; simp at hlt2
            have hedge : edgeAt E ((a + n) % E.length) = E[q] := by rw [← hq]; exact edgeAt_get hqE
            have htour : tourAt E G a n = (E[q], sortP (foundP E[q] G)) := by unfold tourAt; rw [hedge]
            have hdrop := tourP_drop (E := E) (G := G) (at_ := a) hlt2
            rw [htour] at hdrop
            rw [hdrop] at hfin
            have hrow := H8.out.of (w' := v.wd) (by (repeat (first | (with_reducible exact SinceOf.refl _) | (with_reducible assumption) | (with_reducible refine SinceOf.alloc ?_ _) | (with_reducible refine SinceOf.drew ?_) | (with_reducible refine SinceOf.drewN ?_ _) | (with_reducible refine SinceOf.later ?_ _) | (with_reducible refine SinceOf.further ?_ _) | (with_reducible refine SinceOf.setCell ?_ (by first | exact Nat.le_refl _ | (simp; done) | omega | (simp; omega)) _))))
            obtain ⟨g8, o8, rfl, hr8⟩ := hrow.at_ (by omega)
            have hO8 := hr8.there
            have hg8 : g8 < x3.wd.heap.size := H8.out.block_lt (by omega) rfl
            have hO38 : Nonempty (Old x3.wd g8) := ⟨⟨hg8⟩⟩
            have e0 := hr8.e0 q hqE
            have e1 := hr8.e1 q hqE
            have e2 := hr8.e2 q hqE
            have e3 := hr8.e3 q hqE
            have hN := HE.out.1 _ (List.getElem_mem hqE)
            have hfp := hFp q hqE hqF
            have hxi := hFA.rows q hqF
            have hxb := hFA.blk q hqF
            obtain ⟨gg, oo, egg, hrt⟩ := (hFA.own.isRow encG_len).at_ (by omega)
            injection egg with egg
            injection egg with q1 q2 q3
            subst q1 q2
            have k0 := hrt.g0 q hqF
            rw [Nat.zero_add] at k0
            have hO9 := hrt.there
            have hxl2 : F[q].xs.length ≤ 12 := by
              rw [hfp.length_eq]
              have := foundP_len E[q] G
              omega
            have SO := fun W (hW : v.wd = W) => sortOwn_any split3_cmps x3.wd.heap.size F[q].A F[q].c F[q].xs W (hW ▸ hxi) (by omega)
            obtain ⟨s, hs⟩ : ∃ s, s = E[q] := ⟨_, rfl⟩
            rw [← hs] at e0 e1 e2 e3 hN hfp hfin
            obtain ⟨xi, hxe⟩ : ∃ xi, xi = F[q] := ⟨_, rfl⟩
            rw [← hxe] at k0 SO hxl2 hxb hfp
            have hab : IntKind.i64.wrap ((a : Int) + n) = (a : Int) + n := IntWalk.i64_in _ (by omega)
            have b5 : (0 : Int) ≤ q := by omega
            have b6 : (q : Int) < E.length := by omega
            have HW := Lib.hid (And.intro hfin (And.intro hapt (And.intro hFl (And.intro hFp (And.intro hFA (And.intro hPA (And.intro hVS (And.intro hfp (And.intro hxb (And.intro hxe (And.intro hs (And.intro hedge (And.intro hN (And.intro hq hYs))))))))))))))
            obtain ⟨xA, xcc, xs⟩ := xi
            simp only at k0 SO hxl2
            obtain ⟨⟨ax, ay⟩, bx, by'⟩ := s
            simp only at e0 e1 e2 e3
            clear hfin hapt hFl hFp hFA hPA hVS hfp hxi hxb hxe hs hedge hN hq hrt hr8 hrow hdrop htour hYs
            go_wp2_with fail
            go_at_call 67
            refine (SO _ rfl).mono ?_
            rintro e w1 ⟨rfl, M, hp, hsd, ho1, hgr⟩
            have hml : M.length = xs.length := hp.length_eq
            have hF1 : FoundAt x3.wd.heap.size (fun b => b < z.wd.heap.size) w1 (some ⟨x3.wd.heap.size, 0, none⟩) E.length (F.set q ⟨xA, xcc, M⟩) := by
              have := RowsAt.sorted (W' := w1) (HW.out.2.2.2.2.1) hqF (M := M) (by rw [← HW.out.2.2.2.2.2.2.2.2.2.1]; exact ho1) (by rw [← HW.out.2.2.2.2.2.2.2.2.2.1]; exact hml) (by rw [← HW.out.2.2.2.2.2.2.2.2.2.1]; exact hgr)
              rw [← HW.out.2.2.2.2.2.2.2.2.2.1] at this
              exact this
            have hrl : ∀ b, blockOf xA = some b → b < z.wd.heap.size := HW.out.2.2.2.2.2.2.2.2.1
            have hP1 := RowsAt.keptLow (HW.out.2.2.2.2.2.1) hgr hrl
            have hV1 := (HW.out.2.2.2.2.2.2.1).kept hgr (fun e => by have := hrl _ e; omega)
            have hS1 : SinceOf x3.wd w1 := SinceOf.grown (by (repeat (first | (with_reducible exact SinceOf.refl _) | (with_reducible assumption) | (with_reducible refine SinceOf.alloc ?_ _) | (with_reducible refine SinceOf.drew ?_) | (with_reducible refine SinceOf.drewN ?_ _) | (with_reducible refine SinceOf.later ?_ _) | (with_reducible refine SinceOf.further ?_ _) | (with_reducible refine SinceOf.setCell ?_ (by first | exact Nat.le_refl _ | (simp; done) | omega | (simp; omega)) _)))) hgr (fun b e => by have := ((HW.out.2.2.2.2.1).rows q hqF).below b; rw [← HW.out.2.2.2.2.2.2.2.2.2.1] at this; exact (this e).1)
            have hz1 := hgr.size
            have hMin : ∀ c ∈ M, 0 < c.1 ∧ c.1 < c.2 ∧ c.2 < stepsK ((ax, ay), (bx, by')).1 ((ax, ay), (bx, by')).2 := fun c hc => foundP_in (HW.out.2.2.2.2.2.2.2.2.2.2.2.2.1) ((HW.out.2.2.2.2.2.2.2.1).mem_iff.1 (hp.mem_iff.1 hc))
            have hMp : M.Perm (foundP ((ax, ay), (bx, by')) G) := hp.trans (HW.out.2.2.2.2.2.2.2.1)
            obtain ⟨v1, rfl⟩ := hS1
            rw [← hml]
            obtain ⟨TT, hTT⟩ : ∃ t, t = vxs Y ++ ((cutP ((ax, ay), (bx, by')) M x.xs).1 ++ walkP ((tourP E G a).drop (n + 1)) (cutP ((ax, ay), (bx, by')) M x.xs).2) := ⟨_, rfl⟩
            have hM12 : M.length ≤ 12 := by omega
            have HM := Lib.hid (And.intro hF1 (And.intro hP1 (And.intro hV1 (And.intro hMin (And.intro hMp (And.intro hsd hTT))))))
            have PT := fun m hm => point_any ((ax, ay), (bx, by')) m (segN_ok (HW.out.2.2.2.2.2.2.2.2.2.2.2.2.1)) (HW.out.2.2.2.2.2.2.2.2.2.2.2.2.1).1 hm
            have hs8 := (stepsK_small (HW.out.2.2.2.2.2.2.2.2.2.2.2.2.1).2.1 (HW.out.2.2.2.2.2.2.2.2.2.2.2.2.1).2.2 (HW.out.2.2.2.2.2.2.2.2.2.2.2.2.1).1).2
            have HPT := Lib.hid (And.intro PT hs8)
            clear hp hsd ho1 hgr hF1 hP1 hV1 hMin hMp hTT SO PT hs8 hrl hml k0 e0 e1 e2 e3
            go_wp2_with fail
            go_loopg [100] M.length (fun gas s100 wr => ∃ (k g c2 : Nat) (Y2 : List RgR) (x2 : RgR), k ≤ M.length ∧ M.length - k ≤ gas ∧ s100 = .int .i64 k ∧ vxs Y2 ++ ((cutP ((ax, ay), (bx, by')) (M.drop k) x2.xs).1 ++ walkP ((tourP E G a).drop (n + 1)) (cutP ((ax, ay), (bx, by')) (M.drop k) x2.xs).2) = TT ∧ (∀ m (hm : m + 1 < M.length), m + 1 < k → M[m].2 < M[m + 1].1) ∧ Y2.length ≤ n * 12 + k ∧ x2.xs.length ≤ n + 1 ∧ FoundAt x3.wd.heap.size (fun b => b < z.wd.heap.size) wr (some ⟨x3.wd.heap.size, 0, none⟩) E.length (F.set q ⟨xA, xcc, M⟩) ∧ PathsAt z.wd.heap.size b0 wr (some ⟨g, 0, none⟩) c2 (Y2 ++ [x2]) ∧ VarS wr b0 (.slice (some ⟨g, 0, none⟩) (Y2.length + 1) c2) ∧ SinceOf x3.wd wr ∧ z.wd.heap.size ≤ wr.heap.size ∧ ∀ j (hj : j < Y2.length), Y2[j].xs.length ≤ 1000)
            case atStart => exact ⟨0, g, c2, Y, x, by omega, by omega, rfl, by rw [List.drop_zero]; exact HM.out.2.2.2.2.2.2.symm, fun m hm h => by omega, by omega, by omega, HM.out.1, HM.out.2.1, HM.out.2.2.1, by (repeat (first | (with_reducible exact SinceOf.refl _) | (with_reducible assumption) | (with_reducible refine SinceOf.alloc ?_ _) | (with_reducible refine SinceOf.drew ?_) | (with_reducible refine SinceOf.drewN ?_ _) | (with_reducible refine SinceOf.later ?_ _) | (with_reducible refine SinceOf.further ?_ _) | (with_reducible refine SinceOf.setCell ?_ (by first | exact Nat.le_refl _ | (simp; done) | omega | (simp; omega)) _))), by omega, HW.out.2.2.2.2.2.2.2.2.2.2.2.2.2.2⟩
            case round =>
              obtain ⟨k, g, c2, Y2, x2, hk, hgas2, rfl, hfin2, hch, hY2, hx2, hFA2, hPA2, hVS2, ⟨u, rfl⟩, huz, hY2s⟩ := hrel
              have hrow := H8.out.of (w' := u.wd) (by (repeat (first | (with_reducible exact SinceOf.refl _) | (with_reducible assumption) | (with_reducible refine SinceOf.alloc ?_ _) | (with_reducible refine SinceOf.drew ?_) | (with_reducible refine SinceOf.drewN ?_ _) | (with_reducible refine SinceOf.later ?_ _) | (with_reducible refine SinceOf.further ?_ _) | (with_reducible refine SinceOf.setCell ?_ (by first | exact Nat.le_refl _ | (simp; done) | omega | (simp; omega)) _))))
              obtain ⟨g8', o8', eg8, hr8⟩ := hrow.at_ (by omega)
              injection eg8 with eg8
              injection eg8 with q1 q2 q3
              subst q1 q2
              have hO8u := hr8.there
              have e0 := hr8.e0 q hqE
              have e1 := hr8.e1 q hqE
              have e2 := hr8.e2 q hqE
              have e3 := hr8.e3 q hqE
              rw [← HW.out.2.2.2.2.2.2.2.2.2.2.1] at e0 e1 e2 e3
              simp only at e0 e1 e2 e3
              by_cases hlt3 : k < M.length
              · have hrm := (hFA2.rows q (by rw [List.length_set]; exact hqF))
                rw [List.getElem_set_self] at hrm
                obtain ⟨g5, off5, eg5, hr5⟩ := (hrm.isRow encV_len).at_ (by show 0 < M.length; omega)
                simp only at eg5
                have hO5 := hr5.there
                have m0 := hr5.v0 k hlt3
                have m1 := hr5.v1 k hlt3
                simp only at m0 m1
                obtain ⟨k1, hk1⟩ : ∃ k1, k1 = k - 1 := ⟨_, rfl⟩
                have hk1M : k1 < M.length := by omega
                have m2 := hr5.v1 k1 hk1M
                simp only at m2
                have hin := HM.out.2.2.2.1 _ (List.getElem_mem hlt3)
                have hdM : M.drop k = M[k] :: M.drop (k + 1) := List.drop_eq_getElem_cons hlt3
                rw [hdM, cutP] at hfin2
                obtain ⟨pv, hpv⟩ : ∃ t, t = M[k1].2 := ⟨_, rfl⟩
                rw [← hpv] at m2
                obtain ⟨y, hy⟩ : ∃ y, y = M[k] := ⟨_, rfl⟩
                rw [← hy] at m0 m1 hin hfin2
                obtain ⟨p, pq⟩ := y
                simp only at m0 m1 hin hfin2
                have HU := Lib.hid (And.intro hfin2 (And.intro hch (And.intro hFA2 (And.intro hPA2 (And.intro hVS2 (And.intro hpv (And.intro hy (And.intro hk1 hY2s))))))))
                have hin2 : small5 p ∧ small5 pq := by have := HPT.out.2; unfold small5; omega
                have PT1 := HPT.out.1 p hin2.1
                have PT2 := HPT.out.1 pq hin2.2
                obtain ⟨tx, htx⟩ : ∃ t, t = pointK ((ax, ay), (bx, by')).1 ((ax, ay), (bx, by')).2 p := ⟨_, rfl⟩
                obtain ⟨ty, hty⟩ : ∃ t, t = pointK ((ax, ay), (bx, by')).1 ((ax, ay), (bx, by')).2 pq := ⟨_, rfl⟩
                rw [← htx] at PT1
                rw [← hty] at PT2
                have HT := Lib.hid (And.intro htx (And.intro hty hin))
                obtain ⟨tx0, tx1⟩ := tx
                obtain ⟨ty0, ty1⟩ := ty
                simp only at PT1 PT2
                have b7 : (0 : Int) ≤ k := by omega
                have b8 : (k : Int) < M.length := by omega
                have b9 : (0 : Int) ≤ k1 := by omega
                have b10 : (k1 : Int) < M.length := by omega
                have hbox : VarJ (u.wd.alloc (.cells #[.int .i64 p, .int .i64 pq] 83)) u.wd.heap.size (p, pq) := VarJ.new _ _ _ _
                have HB := Lib.hid hbox
                obtain ⟨bad, hbad⟩ : ∃ t, t = (decide (0 < k) && decide (p ≤ pv)) := ⟨_, rfl⟩
                have HBAD := Lib.hid hbad
                have HK1 := Lib.hid hk1
                clear hfin2 hch hFA2 hPA2 hVS2 hpv hy hrow hr8 hr5 hrm hdM hbox hbad hk1 htx hty hin hin2 hY2s
                subst eg5
                go_upto_region 26 with fail
                go_cut [117] from 105 to 117 (fun s117 wx => s117 = .bool bad ∧ SinceOf (u.wd.alloc (.cells #[.int .i64 p, .int .i64 pq] 83)) wx)
                case first =>
                  by_cases hk0 : k = 0
                  · have g4 : decide ((0 : Int) < (k : Int)) = false := decide_eq_false (by omega)
                    have g4n : decide (0 < k) = false := decide_eq_false (by omega)
                    have hb2 : bad = false := by rw [HBAD.out, decide_eq_false (by omega : ¬ 0 < k)]; rfl
                    have HB2 := Lib.hid hb2
                    clear hb2 m2 hk0
                    refine region_since (by kernel_rfl) (by kernel_rfl) ?_
                    repeat (go_big_quiet_step (fail))
                    refine wpQuiet_nil ?_
                    rintro _ ⟨z3, rfl⟩
                    go_wp2_with fail
                    go_meet
                    exact ⟨by rw [HB2.out], by (repeat (first | (with_reducible exact SinceOf.refl _) | (with_reducible assumption) | (with_reducible refine SinceOf.alloc ?_ _) | (with_reducible refine SinceOf.drew ?_) | (with_reducible refine SinceOf.drewN ?_ _) | (with_reducible refine SinceOf.later ?_ _) | (with_reducible refine SinceOf.further ?_ _) | (with_reducible refine SinceOf.setCell ?_ (by first | exact Nat.le_refl _ | (simp; done) | omega | (simp; omega)) _)))⟩
                  · have g4 : decide ((0 : Int) < (k : Int)) = true := decide_eq_true (by omega)
                    have g4n : decide (0 < k) = true := decide_eq_true (by omega)
                    have g5' : IntKind.i64.wrap ((k : Int) - 1) = (k1 : Int) := by have := HK1.out; rw [IntWalk.i64_in _ (by omega)]; omega
                    have hb2 : bad = decide (p ≤ pv) := by rw [HBAD.out, decide_eq_true (by omega : 0 < k), Bool.true_and]
                    have HB2 := Lib.hid hb2
                    clear hb2 hk0
                    have bx0 : (u.wd.alloc (.cells #[.int .i64 p, .int .i64 pq] 83)).cell? ⟨u.wd.heap.size, 0, none⟩ = some (.int .i64 p) := HB.out.c0
                    refine region_since (by kernel_rfl) (by kernel_rfl) ?_
                    repeat (go_big_quiet_step (fail))
                    refine wpQuiet_nil ?_
                    rintro _ ⟨z3, rfl⟩
                    go_wp2_with fail
                    go_meet
                    exact ⟨by rw [HB2.out], by (repeat (first | (with_reducible exact SinceOf.refl _) | (with_reducible assumption) | (with_reducible refine SinceOf.alloc ?_ _) | (with_reducible refine SinceOf.drew ?_) | (with_reducible refine SinceOf.drewN ?_ _) | (with_reducible refine SinceOf.later ?_ _) | (with_reducible refine SinceOf.further ?_ _) | (with_reducible refine SinceOf.setCell ?_ (by first | exact Nat.le_refl _ | (simp; done) | omega | (simp; omega)) _)))⟩
                case rest =>
                  obtain ⟨hbb, ⟨u2, rfl⟩⟩ := hcut
                  subst hbb
                  have hu2 := u2.size
                  (try simp only [World.size_alloc] at hu2)
                  have hsu : SinceOf u.wd u2.wd := by (repeat (first | (with_reducible exact SinceOf.refl _) | (with_reducible assumption) | (with_reducible refine SinceOf.alloc ?_ _) | (with_reducible refine SinceOf.drew ?_) | (with_reducible refine SinceOf.drewN ?_ _) | (with_reducible refine SinceOf.later ?_ _) | (with_reducible refine SinceOf.further ?_ _) | (with_reducible refine SinceOf.setCell ?_ (by first | exact Nat.le_refl _ | (simp; done) | omega | (simp; omega)) _)))
                  have hv2 := HB.out.of (W' := u2.wd) ⟨u2, rfl⟩
                  have c0 := hv2.c0
                  have c1 := hv2.c1
                  simp only at c0 c1
                  have ox : Nonempty (Old u2.wd u.wd.heap.size) := ⟨⟨hv2.lt⟩⟩
                  have e0' : u2.wd.cell? ⟨g8, o8 + q * 4, none⟩ = some (.int .i64 ax) := by simp [go_sem, *]
                  have e1' : u2.wd.cell? ⟨g8, o8 + q * 4 + 1, none⟩ = some (.int .i64 ay) := by simp [go_sem, *]
                  have e2' : u2.wd.cell? ⟨g8, o8 + q * 4 + 2, none⟩ = some (.int .i64 bx) := by simp [go_sem, *]
                  have e3' : u2.wd.cell? ⟨g8, o8 + q * 4 + 3, none⟩ = some (.int .i64 by') := by simp [go_sem, *]
                  have o8' : Nonempty (Old u2.wd g8) := inferInstance
                  have HV2 := Lib.hid (And.intro hv2 hsu)
                  clear hv2 hsu e0 e1 e2 e3 m0 m1 m2
                  cases bad
                  · have hnb : ∀ m (hm : m + 1 < M.length), m + 1 < k + 1 → M[m].2 < M[m + 1].1 := by
                      intro m hm hmk
                      rcases Nat.lt_or_ge (m + 1) k with h9 | h9
                      · exact HU.out.2.1 m hm h9
                      · have hkm : m + 1 = k := by omega
                        have hb := HBAD.out
                        rw [decide_eq_true (show 0 < k by omega), Bool.true_and] at hb
                        have hb := of_decide_eq_false hb.symm
                        have e5 : M[m + 1].1 = p := by
                          have := HU.out.2.2.2.2.2.2.1
                          simp only [hkm]
                          rw [← this]
                        have e6 : M[m].2 = pv := by
                          have h1 := HU.out.2.2.2.2.2.1
                          have h2 := HU.out.2.2.2.2.2.2.2.1
                          have h3 : k1 = m := by omega
                          simp only [h3] at h1
                          exact h1.symm
                        rw [e5, e6]
                        omega
                    have HNB := Lib.hid hnb
                    clear hnb
                    go_wp2_with fail
                    refine regionL [8] (S := (fun w' => (w'.cell? ⟨g8, o8 + q * 4, none⟩ = some (.int .i64 ax) ∧ w'.cell? ⟨g8, o8 + q * 4 + 1, none⟩ = some (.int .i64 ay) ∧ w'.cell? ⟨g8, o8 + q * 4 + 2, none⟩ = some (.int .i64 bx) ∧ w'.cell? ⟨g8, o8 + q * 4 + 3, none⟩ = some (.int .i64 by')) ∧ w'.cell? ⟨u.wd.heap.size, 0, none⟩ = some (.int .i64 p))) (by kernel_rfl) ?_ (fun hHeld0 => ?_)
                    · simp [go_sem, *]
                    refine takeL (i := 0) (d := some 118) (v := ?_) rfl rfl (by kernel_rfl) (by kernel_rfl) (by kernel_rfl) (by kernel_rfl) (by kernel_rfl) (fun _ _ _ h => h) (Or.inl ⟨by rfl, ?_⟩) (by assumption) ?_
                    rotate_left 1
                    · (intro w hSw; (try dsimp only at hSw); go_simp) <;> (with_reducible rfl)
                    (try simp only [Act.put, List.setIfInBounds_toArray, List.set_cons_zero, List.set_cons_succ])
                    refine takeL (i := 1) (d := some 119) (v := ?_) rfl rfl (by kernel_rfl) (by kernel_rfl) (by kernel_rfl) (by kernel_rfl) (by kernel_rfl) (fun _ _ _ h => h) (Or.inl ⟨by rfl, ?_⟩) (by assumption) ?_
                    rotate_left 1
                    · (intro w hSw; (try dsimp only at hSw); go_simp) <;> (with_reducible rfl)
                    (try simp only [Act.put, List.setIfInBounds_toArray, List.set_cons_zero, List.set_cons_succ])
                    refine takeL (i := 2) (d := some 120) (v := ?_) rfl rfl (by kernel_rfl) (by kernel_rfl) (by kernel_rfl) (by kernel_rfl) (by kernel_rfl) (fun _ _ _ h => h) (Or.inl ⟨by rfl, ?_⟩) (by assumption) ?_
                    rotate_left 1
                    · (intro w hSw; (try dsimp only at hSw); go_simp) <;> (with_reducible rfl)
                    (try simp only [Act.put, List.setIfInBounds_toArray, List.set_cons_zero, List.set_cons_succ])
                    refine takeL (i := 3) (d := some 121) (v := ?_) rfl rfl (by kernel_rfl) (by kernel_rfl) (by kernel_rfl) (by kernel_rfl) (by kernel_rfl) (fun _ _ _ h => h) (Or.inl ⟨by rfl, ?_⟩) (by assumption) ?_
                    rotate_left 1
                    · (intro w hSw; (try dsimp only at hSw); go_simp) <;> (with_reducible rfl)
                    (try simp only [Act.put, List.setIfInBounds_toArray, List.set_cons_zero, List.set_cons_succ])
                    refine takeL (i := 4) (d := some 122) (v := ?_) rfl rfl (by kernel_rfl) (by kernel_rfl) (by kernel_rfl) (by kernel_rfl) (by kernel_rfl) (fun _ _ _ h => h) (Or.inl ⟨by rfl, ?_⟩) (by assumption) ?_
                    rotate_left 1
                    · (intro w hSw; (try dsimp only at hSw); go_simp) <;> (with_reducible rfl)
                    (try simp only [Act.put, List.setIfInBounds_toArray, List.set_cons_zero, List.set_cons_succ])
                    refine takeL (i := 5) (d := some 123) (v := ?_) rfl rfl (by kernel_rfl) (by kernel_rfl) (by kernel_rfl) (by kernel_rfl) (by kernel_rfl) (fun _ _ _ h => h) (Or.inl ⟨by rfl, ?_⟩) (by assumption) ?_
                    rotate_left 1
                    · (intro w hSw; (try dsimp only at hSw); go_simp) <;> (with_reducible rfl)
                    (try simp only [Act.put, List.setIfInBounds_toArray, List.set_cons_zero, List.set_cons_succ])
                    refine takeL (i := 6) (d := some 124) (v := ?_) rfl rfl (by kernel_rfl) (by kernel_rfl) (by kernel_rfl) (by kernel_rfl) (by kernel_rfl) (fun _ _ _ h => h) (Or.inl ⟨by rfl, ?_⟩) (by assumption) ?_
                    rotate_left 1
                    · (intro w hSw; (try dsimp only at hSw); go_simp) <;> (with_reducible rfl)
                    (try simp only [Act.put, List.setIfInBounds_toArray, List.set_cons_zero, List.set_cons_succ])
                    refine stepL (i := 7) (by kernel_rfl) rfl (fun K' hK => ?_)
                    go_simp
                    refine (PT1 _).calls.mono ?_
                    rintro e _ ⟨rfl, y1, rfl⟩
                    have hy1 := y1.size
                    (try simp only [World.size_drew] at hy1)
                    go_wp2_with fail
                    refine hK.out _ _ ?_ (fun hHeld1 => ?_)
                    · simp [go_sem, *]
                    clear hK K' hHeld0
                    refine lastL (i := 8) (by kernel_rfl) (by rfl) rfl (fun K' hK => ?_)
                    go_simp
                    have hs9 : SinceOf u.wd y1.wd := HV2.out.2.trans (by (repeat (first | (with_reducible exact SinceOf.refl _) | (with_reducible assumption) | (with_reducible refine SinceOf.alloc ?_ _) | (with_reducible refine SinceOf.drew ?_) | (with_reducible refine SinceOf.drewN ?_ _) | (with_reducible refine SinceOf.later ?_ _) | (with_reducible refine SinceOf.further ?_ _) | (with_reducible refine SinceOf.setCell ?_ (by first | exact Nat.le_refl _ | (simp; done) | omega | (simp; omega)) _))))
                    have ADD := add_any z.wd.heap.size b0 g c2 Y2 x2 tx0 tx1 y1.wd ((HU.out.2.2.2.2.1).of hs9) ((HU.out.2.2.2.1).of hs9) (by omega) (by omega) (by omega)
                    have HS9 := Lib.hid hs9
                    clear hs9
                    refine ADD.mono ?_
                    rintro e w7 ⟨rfl, A7, c7, hP7, hV7, hB7, hz7, ho7⟩
                    have hsx : SinceOf x3.wd w7 := SinceOf.of_below ((show SinceOf x3.wd y1.wd from (show SinceOf x3.wd u.wd by (repeat (first | (with_reducible exact SinceOf.refl _) | (with_reducible assumption) | (with_reducible refine SinceOf.alloc ?_ _) | (with_reducible refine SinceOf.drew ?_) | (with_reducible refine SinceOf.drewN ?_ _) | (with_reducible refine SinceOf.later ?_ _) | (with_reducible refine SinceOf.further ?_ _) | (with_reducible refine SinceOf.setCell ?_ (by first | exact Nat.le_refl _ | (simp; done) | omega | (simp; omega)) _)))).trans HS9.out).below.trans (hB7.mono (by omega)))
                    have hF7 := RowsAt.belowed (n := z.wd.heap.size) (RowsAt.of (HU.out.2.2.1) HS9.out) (fun b h => h) hB7
                    have hgu := ((HU.out.2.2.2.1).own.below g rfl).2
                    have hx2u : blockOf x2.A ≠ some u.wd.heap.size := fun e => by
                      have := ((HU.out.2.2.2.1).rows Y2.length (by simp)).below u.wd.heap.size
                      rw [show (Y2 ++ [x2])[Y2.length]'(by simp) = x2 by simp] at this
                      have := (this e).2
                      omega
                    have hv7 : VarJ w7 u.wd.heap.size (p, pq) := by
                      have hv1 := HV2.out.1.of (W' := y1.wd) (by (repeat (first | (with_reducible exact SinceOf.refl _) | (with_reducible assumption) | (with_reducible refine SinceOf.alloc ?_ _) | (with_reducible refine SinceOf.drew ?_) | (with_reducible refine SinceOf.drewN ?_ _) | (with_reducible refine SinceOf.later ?_ _) | (with_reducible refine SinceOf.further ?_ _) | (with_reducible refine SinceOf.setCell ?_ (by first | exact Nat.le_refl _ | (simp; done) | omega | (simp; omega)) _))))
                      have hb7 := ho7 u.wd.heap.size hv1.lt (by omega) hx2u
                      exact ⟨(World.cell?_of_block hb7).trans hv1.c0, (World.cell?_of_block hb7).trans hv1.c1, (World.frozen?_of_block hb7).trans hv1.f0, (World.frozen?_of_block hb7).trans hv1.f1, by have := hv1.lt; omega⟩
                    obtain ⟨u7, rfl⟩ := hsx
                    have H7 := Lib.hid (And.intro hP7 (And.intro hV7 (And.intro hF7 hv7)))
                    clear hP7 hV7 hB7 ho7 hF7 hv7 ADD
                    go_wp2_with fail
                    refine hK.out _ _ ?_
                    clear hK K' hHeld1
                    refine doneL (by kernel_rfl) ?_ _
                    have d0 := H7.out.2.2.2.c0
                    have d1 := H7.out.2.2.2.c1
                    simp only at d0 d1
                    have v0 := H7.out.2.1.c0
                    have f0 := H7.out.2.1.f0
                    have ob0 : Nonempty (Old u7.wd b0) := ⟨⟨H7.out.2.1.lt⟩⟩
                    have ou : Nonempty (Old u7.wd u.wd.heap.size) := ⟨⟨H7.out.2.2.2.lt⟩⟩
                    have h8r := (H8.out.of (w' := u7.wd) (by (repeat (first | (with_reducible exact SinceOf.refl _) | (with_reducible assumption) | (with_reducible refine SinceOf.alloc ?_ _) | (with_reducible refine SinceOf.drew ?_) | (with_reducible refine SinceOf.drewN ?_ _) | (with_reducible refine SinceOf.later ?_ _) | (with_reducible refine SinceOf.further ?_ _) | (with_reducible refine SinceOf.setCell ?_ (by first | exact Nat.le_refl _ | (simp; done) | omega | (simp; omega)) _))))).at_ (by omega)
                    obtain ⟨gq, oq, eq8, hr8⟩ := h8r
                    injection eq8 with eq8
                    injection eq8 with q1 q2 q3
                    subst q1 q2
                    have o87 := hr8.there
                    have e0 := hr8.e0 q hqE
                    have e1 := hr8.e1 q hqE
                    have e2 := hr8.e2 q hqE
                    have e3 := hr8.e3 q hqE
                    rw [← HW.out.2.2.2.2.2.2.2.2.2.2.1] at e0 e1 e2 e3
                    simp only at e0 e1 e2 e3
                    clear hr8 e0' e1' e2' e3' c0 c1
                    go_wp2_with fail
                    refine regionL [11] (S := (fun w' => (w'.cell? ⟨g8, o8 + q * 4, none⟩ = some (.int .i64 ax) ∧ w'.cell? ⟨g8, o8 + q * 4 + 1, none⟩ = some (.int .i64 ay) ∧ w'.cell? ⟨g8, o8 + q * 4 + 2, none⟩ = some (.int .i64 bx) ∧ w'.cell? ⟨g8, o8 + q * 4 + 3, none⟩ = some (.int .i64 by')) ∧ w'.cell? ⟨u.wd.heap.size, 1, none⟩ = some (.int .i64 pq) ∧ w'.cell? ⟨b0, 0, none⟩ = some (.slice (some ⟨g, 0, none⟩) (Y2.length + 1) c2))) (by kernel_rfl) ?_ (fun hHeld0 => ?_)
                    · simp [go_sem, *]
                    refine takeL (i := 0) (d := some 127) (v := ?_) rfl rfl (by kernel_rfl) (by kernel_rfl) (by kernel_rfl) (by kernel_rfl) (by kernel_rfl) (fun _ _ _ h => h) (Or.inl ⟨by rfl, ?_⟩) (by assumption) ?_
                    rotate_left 1
                    · (intro w hSw; (try dsimp only at hSw); go_simp) <;> (with_reducible rfl)
                    (try simp only [Act.put, List.setIfInBounds_toArray, List.set_cons_zero, List.set_cons_succ])
                    refine takeL (i := 1) (d := some 128) (v := ?_) rfl rfl (by kernel_rfl) (by kernel_rfl) (by kernel_rfl) (by kernel_rfl) (by kernel_rfl) (fun _ _ _ h => h) (Or.inl ⟨by rfl, ?_⟩) (by assumption) ?_
                    rotate_left 1
                    · (intro w hSw; (try dsimp only at hSw); go_simp) <;> (with_reducible rfl)
                    (try simp only [Act.put, List.setIfInBounds_toArray, List.set_cons_zero, List.set_cons_succ])
                    refine takeL (i := 2) (d := some 129) (v := ?_) rfl rfl (by kernel_rfl) (by kernel_rfl) (by kernel_rfl) (by kernel_rfl) (by kernel_rfl) (fun _ _ _ h => h) (Or.inl ⟨by rfl, ?_⟩) (by assumption) ?_
                    rotate_left 1
                    · (intro w hSw; (try dsimp only at hSw); go_simp) <;> (with_reducible rfl)
                    (try simp only [Act.put, List.setIfInBounds_toArray, List.set_cons_zero, List.set_cons_succ])
                    refine takeL (i := 3) (d := some 130) (v := ?_) rfl rfl (by kernel_rfl) (by kernel_rfl) (by kernel_rfl) (by kernel_rfl) (by kernel_rfl) (fun _ _ _ h => h) (Or.inl ⟨by rfl, ?_⟩) (by assumption) ?_
                    rotate_left 1
                    · (intro w hSw; (try dsimp only at hSw); go_simp) <;> (with_reducible rfl)
                    (try simp only [Act.put, List.setIfInBounds_toArray, List.set_cons_zero, List.set_cons_succ])
                    refine takeL (i := 4) (d := some 131) (v := ?_) rfl rfl (by kernel_rfl) (by kernel_rfl) (by kernel_rfl) (by kernel_rfl) (by kernel_rfl) (fun _ _ _ h => h) (Or.inl ⟨by rfl, ?_⟩) (by assumption) ?_
                    rotate_left 1
                    · (intro w hSw; (try dsimp only at hSw); go_simp) <;> (with_reducible rfl)
                    (try simp only [Act.put, List.setIfInBounds_toArray, List.set_cons_zero, List.set_cons_succ])
                    refine takeL (i := 5) (d := some 132) (v := ?_) rfl rfl (by kernel_rfl) (by kernel_rfl) (by kernel_rfl) (by kernel_rfl) (by kernel_rfl) (fun _ _ _ h => h) (Or.inl ⟨by rfl, ?_⟩) (by assumption) ?_
                    rotate_left 1
                    · (intro w hSw; (try dsimp only at hSw); go_simp) <;> (with_reducible rfl)
                    (try simp only [Act.put, List.setIfInBounds_toArray, List.set_cons_zero, List.set_cons_succ])
                    refine takeL (i := 6) (d := some 133) (v := ?_) rfl rfl (by kernel_rfl) (by kernel_rfl) (by kernel_rfl) (by kernel_rfl) (by kernel_rfl) (fun _ _ _ h => h) (Or.inl ⟨by rfl, ?_⟩) (by assumption) ?_
                    rotate_left 1
                    · (intro w hSw; (try dsimp only at hSw); go_simp) <;> (with_reducible rfl)
                    (try simp only [Act.put, List.setIfInBounds_toArray, List.set_cons_zero, List.set_cons_succ])
                    refine stepL (i := 7) (by kernel_rfl) rfl (fun K' hK => ?_)
                    go_simp
                    refine (PT2 _).calls.mono ?_
                    rintro e _ ⟨rfl, y3, rfl⟩
                    have hy3 := y3.size
                    (try simp only [World.size_drew] at hy3)
                    go_wp2_with fail
                    refine hK.out _ _ ?_ (fun hHeld1 => ?_)
                    · simp [go_sem, *]
                    clear hK K' hHeld0
                    refine stepL (i := 8) (by kernel_rfl) rfl (fun K' hK => ?_)
                    go_simp
                    refine hK.out _ _ ?_ (fun hHeld2 => ?_)
                    · simp [go_sem, *]
                    clear hK K' hHeld1
                    refine stepL (i := 9) (by kernel_rfl) rfl (fun K' hK => ?_)
                    go_simp
                    refine hK.out _ _ ?_ (fun hHeld3 => ?_)
                    · simp [go_sem, *]
                    clear hK K' hHeld2
                    refine stepL (i := 10) (by kernel_rfl) rfl (fun K' hK => ?_)
                    obtain ⟨W9, hW9⟩ : ∃ W9, W9 = (y3.wd.alloc (.cells #[.int .i64 ty0, .int .i64 ty1] 25)).alloc (.cells #[.slice (some ⟨y3.wd.heap.size, 0, none⟩) 1 1] 22) := ⟨_, rfl⟩
                    rw [← hW9]
                    have hS9 : SinceOf u7.wd W9 := by rw [hW9]; (repeat (first | (with_reducible exact SinceOf.refl _) | (with_reducible assumption) | (with_reducible refine SinceOf.alloc ?_ _) | (with_reducible refine SinceOf.drew ?_) | (with_reducible refine SinceOf.drewN ?_ _) | (with_reducible refine SinceOf.later ?_ _) | (with_reducible refine SinceOf.further ?_ _) | (with_reducible refine SinceOf.setCell ?_ (by first | exact Nat.le_refl _ | (simp; done) | omega | (simp; omega)) _)))
                    have hzW : W9.heap.size = y3.wd.heap.size + 1 + 1 := by rw [hW9]; simp
                    have hm9 : IsRow encG 1 W9 (some ⟨y3.wd.heap.size + 1, 0, none⟩) 1 [⟨some ⟨y3.wd.heap.size, 0, none⟩, 1, [(ty0, ty1)]⟩] := by rw [hW9]; exact rowG_atT _ _ _ ⟨some ⟨y3.wd.heap.size, 0, none⟩, 1, [(ty0, ty1)]⟩ (by simp)
                    have hx9 : Owns encV 2 z.wd.heap.size 25 W9 (some ⟨y3.wd.heap.size, 0, none⟩) 1 [(ty0, ty1)] := by rw [hW9]; exact ((ownV_one y3.wd ty0 ty1).base_le (by have := H7.out.2.2.2.lt; omega)).alloc _
                    have hP9 := H7.out.1.of hS9
                    have hV9 := H7.out.2.1.of hS9
                    have hg7 := (H7.out.1.own.below g rfl).2
                    have hb7 := H7.out.2.1.lt
                    have hl9 : (Y2 ++ [(⟨A7, c7, x2.xs ++ [(tx0, tx1)]⟩ : RgR)]).length = Y2.length + 1 := by simp
                    refine step_append_row (w := W9) (by rfl) (.tmp 127) (.tmp 136) 46 (by rfl) encG_len (by omega) encG_one i2 _ 24 Tryz.underlying46 HI2.out.1 HI2.out.2.1 HI2.out.2.2.1 HI2.out.2.2.2 rfl (l := Y2 ++ [⟨A7, c7, x2.xs ++ [(tx0, tx1)]⟩]) (A := some ⟨g, 0, none⟩) (c := c2) (base := z.wd.heap.size) (by rw [hl9]; rfl) hP9.own (m := [⟨some ⟨y3.wd.heap.size, 0, none⟩, 1, [(ty0, ty1)]⟩]) (by rfl) hm9 (by rw [hl9]; unfold maxLen; simp; omega) (by rw [hl9]; simp; omega) (by omega) ?_
                    intro A10 c10 w10 ho10 hgr10 hb10
                    have hpush := RowsAt.push hP9 (x := ⟨some ⟨y3.wd.heap.size, 0, none⟩, 1, [(ty0, ty1)]⟩) hx9 (fun b e q => by simp [blockOf] at e q; omega) (fun j hj b e q => by
                      have := (hP9.rows j hj).below b q
                      have h7 := (H7.out.1.rows j hj).below b q
                      simp [blockOf] at e
                      omega) (fun b e => by simp [blockOf] at e; show b ≠ b0; omega) ho10 hgr10 hb10 (by show W9.heap.size ≠ b0; omega)
                    have hV10 := hV9.kept hgr10 (fun e => by
                      simp [blockOf] at e
                      exact H7.out.1.blkA g rfl e)
                    have hsx10 : SinceOf x3.wd w10 := SinceOf.grown ((show SinceOf x3.wd u7.wd by (repeat (first | (with_reducible exact SinceOf.refl _) | (with_reducible assumption) | (with_reducible refine SinceOf.alloc ?_ _) | (with_reducible refine SinceOf.drew ?_) | (with_reducible refine SinceOf.drewN ?_ _) | (with_reducible refine SinceOf.later ?_ _) | (with_reducible refine SinceOf.further ?_ _) | (with_reducible refine SinceOf.setCell ?_ (by first | exact Nat.le_refl _ | (simp; done) | omega | (simp; omega)) _)))).trans hS9) hgr10 (fun b e => by have := (H7.out.1.own.below b e).1; omega)
                    have hF10 : FoundAt x3.wd.heap.size (fun b => b < z.wd.heap.size) w10 (some ⟨x3.wd.heap.size, 0, none⟩) E.length (F.set q ⟨some ⟨g5, off5, none⟩, xcc, M⟩) := (H7.out.2.2.1.of hS9).kept hgr10 (fun b e hb => by have := (H7.out.1.own.below b e).1; omega)
                    have m8 : ∀ r v, W9.cell? ⟨g8, r, none⟩ = some v → w10.cell? ⟨g8, r, none⟩ = some v := fun r v e => hgr10.cell e (fun e2 => by simp [blockOf] at e2; have := (H7.out.1.own.below g rfl).1; omega)
                    have q0 : w10.cell? ⟨u.wd.heap.size, 1, none⟩ = some (.int .i64 pq) := hgr10.cell (by rw [hW9]; simp [go_sem, *]) (fun e => by simp [blockOf] at e; omega)
                    have hz10 := hgr10.size
                    have HN := Lib.hid (And.intro hpush (And.intro hV10 (And.intro hsx10 hF10)))
                    have v10 := hV10.c0
                    have f10 := hV10.f0
                    have ob10 : Nonempty (Old w10 b0) := ⟨⟨hV10.lt⟩⟩
                    refine hK.out _ _ ⟨⟨m8 _ _ (by rw [hW9]; simp [go_sem, *]), m8 _ _ (by rw [hW9]; simp [go_sem, *]), m8 _ _ (by rw [hW9]; simp [go_sem, *]), m8 _ _ (by rw [hW9]; simp [go_sem, *])⟩, q0, v10⟩ (fun hHeld4 => ?_)
                    clear hK K' hHeld3 hpush hV10 hsx10 hF10 m8 hP9 hV9 hx9 hm9 hW9 ho10 hgr10 hb10
                    refine lastL (i := 11) (by kernel_rfl) (by rfl) rfl (fun K' hK => ?_)
                    go_simp
                    refine hK.out _ _ ?_
                    refine doneL (by kernel_rfl) ?_ _
                    obtain ⟨g10, hA10⟩ : ∃ g10, A10 = some ⟨g10, 0, none⟩ := by obtain ⟨gg, hh, -⟩ := HN.out.1.own.at0 (by simp); exact ⟨gg, hh⟩
                    subst hA10
                    go_wp2_with fail
                    go_roundg (M.length - (k + 1))
                    case measure => omega
                    case rel =>
                      refine ⟨k + 1, g10, c10, Y2 ++ [⟨A7, c7, x2.xs ++ [(tx0, tx1)]⟩], ⟨some ⟨y3.wd.heap.size, 0, none⟩, 1, [(ty0, ty1)]⟩, hlt3, Nat.le_refl _, by go_num, ?_, HNB.out, by simp; omega, by simp, ?_, ?_, ?_, HN.out.2.2.1.setCell (by show x3.wd.heap.size ≤ b0; omega) _, by simp [World.setCell]; omega, ?_⟩
                      · rw [← HU.out.1, vxs_append2, ← HT.out.1, ← HT.out.2.1]
                        simp [vxs]
                      · exact HN.out.2.2.2.setNe (by show ¬ (b0 < z.wd.heap.size); omega)
                      · exact HN.out.1.setNe (fun h => h rfl)
                      · have := HN.out.2.1.set (.slice (some ⟨g10, 0, none⟩) (Y2.length + 1 + 1) c10)
                        simpa using this
                      · intro j hj
                        by_cases e : j < Y2.length
                        · rw [List.getElem_append_left e]; exact HU.out.2.2.2.2.2.2.2.2 j e
                        · rw [List.length_append, List.length_singleton] at hj
                          obtain rfl : j = Y2.length := by omega
                          simp
                          omega
                  · obtain rfl : res = ([], 1) := by
                      rw [HP.out.1, if_neg]
                      intro hpr
                      have hap := proper_apart hpr hqE
                      rw [edgeAt_get hqE, ← HW.out.2.2.2.2.2.2.2.2.2.2.1] at hap
                      have hpw := (apart_sorted (fun c hc => (foundP_in (HW.out.2.2.2.2.2.2.2.2.2.2.2.2.1) hc).2.1) HM.out.2.2.2.2.1 HM.out.2.2.2.2.2.1).1 hap
                      have hb := HBAD.out
                      have hb := hb.symm
                      rw [Bool.and_eq_true, decide_eq_true_eq, decide_eq_true_eq] at hb
                      have h8 := HU.out.2.2.2.2.2.2.2.1
                      have := List.pairwise_iff_getElem.1 hpw k1 k hk1M hlt3 (by omega)
                      rw [← HU.out.2.2.2.2.2.1, ← HU.out.2.2.2.2.2.2.1] at this
                      simp only at this
                      omega
                    go_wp2_with fail
                    go_returns
                    exact splitE_err (H3.out.trans ((show SinceOf x3.wd u.wd by (repeat (first | (with_reducible exact SinceOf.refl _) | (with_reducible assumption) | (with_reducible refine SinceOf.alloc ?_ _) | (with_reducible refine SinceOf.drew ?_) | (with_reducible refine SinceOf.drewN ?_ _) | (with_reducible refine SinceOf.later ?_ _) | (with_reducible refine SinceOf.further ?_ _) | (with_reducible refine SinceOf.setCell ?_ (by first | exact Nat.le_refl _ | (simp; done) | omega | (simp; omega)) _)))).trans (HV2.out.2.trans (by (repeat (first | (with_reducible exact SinceOf.refl _) | (with_reducible assumption) | (with_reducible refine SinceOf.alloc ?_ _) | (with_reducible refine SinceOf.drew ?_) | (with_reducible refine SinceOf.drewN ?_ _) | (with_reducible refine SinceOf.later ?_ _) | (with_reducible refine SinceOf.further ?_ _) | (with_reducible refine SinceOf.setCell ?_ (by first | exact Nat.le_refl _ | (simp; done) | omega | (simp; omega)) _)))))))
              · obtain rfl : k = M.length := by omega
                rw [List.drop_length, cutP] at hfin2
                have hpw : M.Pairwise fun a b => a.2 < b.1 := chain_all (fun c hc => (HM.out.2.2.2.1 c hc).2.1) (fun m hm => hch m hm (by omega))
                have hap : apartP (foundP ((ax, ay), (bx, by')) G) = true := (apart_sorted (fun c hc => (foundP_in (HW.out.2.2.2.2.2.2.2.2.2.2.2.2.1) hc).2.1) HM.out.2.2.2.2.1 HM.out.2.2.2.2.2.1).2 hpw
                have hMs : M = sortP (foundP ((ax, ay), (bx, by')) G) := sort_is (fun c hc => (foundP_in (HW.out.2.2.2.2.2.2.2.2.2.2.2.2.1) hc).2.1) HM.out.2.2.2.2.1 HM.out.2.2.2.2.2.1 hap
                have hTP : TT = PTH := by
                  rw [HM.out.2.2.2.2.2.2, ← HW.out.1]
                  show _ = vxs Y ++ walkP ((((ax, ay), (bx, by')), sortP (foundP ((ax, ay), (bx, by')) G)) :: (tourP E G a).drop (n + 1)) x.xs
                  rw [← hMs]
                  rfl
                have hap2 : ∀ m, m < n + 1 → apartP (foundP (edgeAt E ((a + m) % E.length)) G) = true := by
                  intro m hm
                  by_cases e : m = n
                  · subst e
                    rw [HW.out.2.2.2.2.2.2.2.2.2.2.2.1, ← HW.out.2.2.2.2.2.2.2.2.2.2.1]
                    exact hap
                  · exact HW.out.2.1 m (by omega)
                have hnx : vxs Y2 ++ walkP ((tourP E G a).drop (n + 1)) (x2.xs ++ [(bx, by')]) = PTH := by
                  rw [← hTP, ← hfin2]
                  simp
                have hFp2 : ∀ i (hi : i < E.length) (hi2 : i < (F.set q ⟨xA, xcc, M⟩).length), ((F.set q ⟨xA, xcc, M⟩)[i]).xs.Perm (foundP E[i] G) := by
                  intro i hi hi2
                  by_cases e : q = i
                  · subst e
                    rw [List.getElem_set_self, ← HW.out.2.2.2.2.2.2.2.2.2.2.1]
                    exact HM.out.2.2.2.2.1
                  · rw [List.getElem_set_ne e]
                    exact HW.out.2.2.2.1 i hi _
                have ADD := fun W (hW : SinceOf u.wd W) => add_any z.wd.heap.size b0 g c2 Y2 x2 bx by' W (hVS2.of hW) (hPA2.of hW) (by have := hW.size; omega) (by omega) (by omega)
                have HE2 := Lib.hid (And.intro hap2 (And.intro hnx (And.intro hFp2 (And.intro hFA2 hY2s))))
                clear hfin2 hch hpw hap hMs hTP hap2 hnx hFp2 hFA2 hPA2 hVS2 hr8 hrow hY2s
                go_wp2_with fail
                refine (ADD _ (by (repeat (first | (with_reducible exact SinceOf.refl _) | (with_reducible assumption) | (with_reducible refine SinceOf.alloc ?_ _) | (with_reducible refine SinceOf.drew ?_) | (with_reducible refine SinceOf.drewN ?_ _) | (with_reducible refine SinceOf.later ?_ _) | (with_reducible refine SinceOf.further ?_ _) | (with_reducible refine SinceOf.setCell ?_ (by first | exact Nat.le_refl _ | (simp; done) | omega | (simp; omega)) _))))).mono ?_
                rintro e w7 ⟨rfl, A7, c7, hP7, hV7, hB7, hz7, ho7⟩
                have hsx : SinceOf x3.wd w7 := SinceOf.of_below ((show SinceOf x3.wd u.wd by (repeat (first | (with_reducible exact SinceOf.refl _) | (with_reducible assumption) | (with_reducible refine SinceOf.alloc ?_ _) | (with_reducible refine SinceOf.drew ?_) | (with_reducible refine SinceOf.drewN ?_ _) | (with_reducible refine SinceOf.later ?_ _) | (with_reducible refine SinceOf.further ?_ _) | (with_reducible refine SinceOf.setCell ?_ (by first | exact Nat.le_refl _ | (simp; done) | omega | (simp; omega)) _)))).below.trans (hB7.mono (by omega)))
                have hF7 := RowsAt.belowed (n := z.wd.heap.size) (HE2.out.2.2.2.1) (fun b h => h) hB7
                have HZ := Lib.hid (And.intro hP7 (And.intro hV7 (And.intro hsx hF7)))
                clear hP7 hV7 hsx hF7 hB7 ho7 ADD
                go_wp2_with fail
                go_roundg (E.length - (n + 1))
                case measure => omega
                case rel => exact ⟨n + 1, g, c2, Y2, ⟨A7, c7, x2.xs ++ [(bx, by')]⟩, F.set q ⟨xA, xcc, M⟩, hlt2, Nat.le_refl _, by go_num, HE2.out.2.1, HE2.out.1, by omega, by simp; omega, by rw [List.length_set]; exact HW.out.2.2.1, HE2.out.2.2.1, HZ.out.2.2.2, HZ.out.1, HZ.out.2.1, HZ.out.2.2.1, by omega, HE2.out.2.2.2.2⟩
          · obtain rfl : n = E.length := by omega
            rw [tourP_end] at hfin
            have hpr : properB E G = true := proper_of HF.out.2.2.1 haE hapt
            obtain rfl : res = (PTH, 0) := by rw [HP.out.1, if_pos hpr]
            have hvx : vxs (Y ++ [x]) = PTH := by rw [← hfin, vxs_append2]; rfl
            have hR := hPA.rings (by simp; omega) (fun j hj => by
              by_cases e : j < Y.length
              · rw [List.getElem_append_left e]; have := hYs j e; omega
              · rw [List.length_append, List.length_singleton] at hj
                obtain rfl : j = Y.length := by omega
                simp
                omega)
            have v0 := hVS.c0
            have ob0 : Nonempty (Old v.wd b0) := ⟨⟨hVS.lt⟩⟩
            have hYl2 : (Y ++ [x]).length = Y.length + 1 := by simp
            have HY := Lib.hid (And.intro hvx (And.intro hR hYl2))
            clear hfin hapt hFp hFA hPA hVS hpr hvx hR hYl2 hYs hFl
            go_wp2_with fail
            go_returns
            exact ⟨H3.out.trans (by (repeat (first | (with_reducible exact SinceOf.refl _) | (with_reducible assumption) | (with_reducible refine SinceOf.alloc ?_ _) | (with_reducible refine SinceOf.drew ?_) | (with_reducible refine SinceOf.drewN ?_ _) | (with_reducible refine SinceOf.later ?_ _) | (with_reducible refine SinceOf.further ?_ _) | (with_reducible refine SinceOf.setCell ?_ (by first | exact Nat.le_refl _ | (simp; done) | omega | (simp; omega)) _)))), some ⟨g, 0, none⟩, c2, Y ++ [x], by first | (rw [HY.out.2.2]; rfl) | (rw [HY.out.2.2]; simp; done) | simp, HY.out.1, HY.out.2.1⟩
end Go.Proofs.YtkpnffokjpgalaaGreat
