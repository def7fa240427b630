/- Layer 46: Split of the reference. -/
import Derived.Test.YtkpnffokjpgalaaGreatKJntT4
import Derived.Test.YtkpnffokjpgalaaGreatKMakeJ
namespace Go.Proofs.YtkpnffokjpgalaaGreat
set_option linter.unusedVariables false
set_option linter.unusedSimpArgs false
open Go.RowKit Go.Sort
attribute [local go_sem ↓] Go.wp_at_zero Go.wp_at_succ

/-- Finished paths. -/
abbrev OutAt (base : Nat) (W : World) (A : Option Addr) (c : Nat) (Y : List RgR) : Prop := RowsAt 22 25 base (fun _ => True) W A c Y
/-- The path under way. -/
structure PathAt (base : Nat) (W : World) (A : Option Addr) (Y : List RgR) (x : RgR) : Prop where
  own : Owns encV 2 base 25 W x.A x.c x.xs
  tab : Apt x.A A
  rows : ∀ j (h : j < Y.length), Apt x.A Y[j].A
theorem PathAt.of {base : Nat} {W W' : World} {A : Option Addr} {Y : List RgR} {x : RgR} (h : PathAt base W A Y x) (hs : SinceOf W W') : PathAt base W' A Y x := ⟨h.own.of hs, h.tab, h.rows⟩
theorem RowsAt.keptApt {e1 e2 : TypeId} {base : Nat} {P : Nat → Prop} {W W' : World} {A B : Option Addr} {c : Nat} {F : List RgR} (h : RowsAt e1 e2 base P W A c F) (hg : W.grownBy W' (blockOf B)) (hA : Apt B A) (hR : ∀ j (hj : j < F.length), Apt B F[j].A) : RowsAt e1 e2 base P W' A c F :=
  ⟨h.own.kept hg (Apt.row (α := Unit) (β := Unit) hA.symm), fun j hj => (h.rows j hj).kept hg (Apt.row (α := Unit) (β := Unit) (hR j hj).symm), h.apart, h.tab, h.blkA, h.blk⟩
/-- The path has grown. -/
theorem path_grown {base : Nat} {P : Nat → Prop} {W W' : World} {A : Option Addr} {c : Nat} {Y : List RgR} {x : RgR} (ho : RowsAt 22 25 base P W A c Y) (h : PathAt base W A Y x) {A' : Option Addr} {c' : Nat} {m : List Pt} (hx : Owns encV 2 base 25 W' A' c' m) (hg : W.grownBy W' (blockOf x.A)) (hb : blockOf A' = blockOf x.A ∨ blockOf A' = some W.heap.size) :
    RowsAt 22 25 base P W' A c Y ∧ PathAt base W' A Y ⟨A', c', m⟩ := by
  have new : ∀ B : Option Addr, Apt x.A B → (∀ b, blockOf B = some b → b < W.heap.size) → Apt A' B := fun B hB hlt b e q => by
    rcases hb with r | r
    · rw [r] at e; exact hB b e q
    · rw [r] at e; injection e with e; have := hlt b q; omega
  exact ⟨ho.keptApt hg h.tab h.rows, hx, new _ h.tab fun b e => (ho.own.below b e).2, fun j hj => new _ (h.rows j hj) fun b e => ((ho.rows j hj).below b e).2⟩
/-- A path in a block of its own, made last. -/
theorem path_new {base : Nat} {P : Nat → Prop} {W : World} {A : Option Addr} {c : Nat} {Y : List RgR} (ho : RowsAt 22 25 base P W A c Y) (x y : Int) (hb : base ≤ W.heap.size) :
    RowsAt 22 25 base P (W.alloc (.cells #[.int .i64 x, .int .i64 y] 25)) A c Y ∧ PathAt base (W.alloc (.cells #[.int .i64 x, .int .i64 y] 25)) A Y ⟨some ⟨W.heap.size, 0, none⟩, 1, [(x, y)]⟩ := by
  refine ⟨ho.of ((SinceOf.refl _).alloc _), (ownV_one W x y).base_le hb, fun b e q => ?_, fun j hj b e q => ?_⟩
  · have := (ho.own.below b q).2
    simp [blockOf] at e
    omega
  · have := ((ho.rows j hj).below b q).2
    simp [blockOf] at e
    omega
theorem PathAt.setNe {base : Nat} {W : World} {A : Option Addr} {Y : List RgR} {x : RgR} (h : PathAt base W A Y x) {g i : Nat} {u : Value} (hg : blockOf x.A ≠ some g) : PathAt base (W.setCell ⟨g, i, none⟩ u) A Y x := ⟨h.own.setNeJ hg, h.tab, h.rows⟩
theorem rowG_len (W : World) (T : TypeId) (g : Nat) (A : Option Addr) (c n : Nat) (xs : List Pt) (hg : W.heap.size = g) (hn : n = xs.length) : IsRow encG 1 (W.alloc (.cells #[.slice A n c] T)) (some ⟨g, 0, none⟩) 1 [⟨A, c, xs⟩] := by
  subst hn
  exact rowG_atT W T g ⟨A, c, xs⟩ hg
theorem VarJ.allocR {W : World} {g : Nat} {p : Pt} (h : VarJ W g p) (o : Obj) : VarJ (W.alloc o) g p := h.of ((SinceOf.refl _).alloc o)
theorem ownV_empty (W : World) (base : Nat) (h : base ≤ W.heap.size) : Owns encV 2 base 25 (W.alloc (.cells #[] 25)) (some ⟨W.heap.size, 0, none⟩) 0 [] := World.ownsRow_lit W #[] 0 h (Nat.zero_le _) rfl
theorem edge_rv {r : List Pt} (h : ¬ r.length < 2) {q : Nat} (hq : q < r.length) : (edgesV r)[q]'(by rw [edgesV_len h]; exact hq) = (r[q], r[(q + 1) % r.length]'(Nat.mod_lt _ (by omega))) := by
  rw [edgesV_at h hq, at0_eq hq]
  congr 1
  unfold rv
  exact at0_eq _
theorem SegV.kept {W w' : World} {b : Nat} {s : SegP} {row : Option Nat} (h : SegV W b s) (hg : W.grownBy w' row) (hne : row ≠ some b) : SegV w' b s := by
  have q := hg.block b h.lt (fun e => hne e.symm)
  exact ⟨(World.cell?_of_block q).trans h.c0, (World.cell?_of_block q).trans h.c1, (World.cell?_of_block q).trans h.c2, (World.cell?_of_block q).trans h.c3, Nat.lt_of_lt_of_le h.lt hg.size⟩
theorem SegX.kept {W w' : World} {b : Nat} {s : SegP} {row : Option Nat} (h : SegX W b s) (hg : W.grownBy w' row) (hne : row ≠ some b) : SegX w' b s := by
  have q := hg.block b h.v.lt (fun e => hne e.symm)
  exact ⟨h.v.kept hg hne, fun j => (World.frozen?_of_block q).trans (h.f j)⟩
/-- The path's last point, the path handed over: what stands in the world after both appends. -/
theorem split_push {base b11 b12 b13 : Nat} {X V w6 w7 : World} {OA A6 A7 : Option Addr} {oc c6 c7 : Nat} {Y : List RgR} {x : RgR} {s s' : SegP} {p : Pt} {gx gy : Int} {n6 : Nat} {xs6 : List Pt}
    (hO : RowsAt 22 25 base (fun b => b ≠ b11 ∧ b ≠ b12 ∧ b ≠ b13) V OA oc Y) (hX : PathAt base V OA Y x) (hXb : ∀ b, blockOf x.A = some b → b ≠ b11 ∧ b ≠ b12 ∧ b ≠ b13)
    (hv11 : SegV V b11 s) (hv12 : VarJ V b12 p) (hv13 : SegX V b13 s') (hS : SinceOf X V) (hbX : base = X.heap.size)
    (ho6 : Owns encV 2 base 25 w6 A6 c6 xs6) (hgr6 : (V.alloc (.cells #[.int .i64 gx, .int .i64 gy] 25)).grownBy w6 (blockOf x.A)) (hb6 : blockOf A6 = blockOf x.A ∨ blockOf A6 = some (V.alloc (.cells #[.int .i64 gx, .int .i64 gy] 25)).heap.size)
    (ho7 : Owns encG 1 base 22 w7 A7 c7 (Y ++ [⟨A6, c6, xs6⟩])) (hgr7 : (w6.alloc (.cells #[.slice A6 n6 c6] 22)).grownBy w7 (blockOf OA)) (hb7 : blockOf A7 = blockOf OA ∨ blockOf A7 = some (w6.alloc (.cells #[.slice A6 n6 c6] 22)).heap.size) :
    RowsAt 22 25 base (fun b => b ≠ b11 ∧ b ≠ b12 ∧ b ≠ b13) w7 A7 c7 (Y ++ [⟨A6, c6, xs6⟩]) ∧ SegV w7 b11 s ∧ VarJ w7 b12 p ∧ SegX w7 b13 s' ∧ SinceOf X w7 := by
  have hs5 : SinceOf V (V.alloc (.cells #[.int .i64 gx, .int .i64 gy] 25)) := (SinceOf.refl _).alloc _
  have hp6 := path_grown (hO.of hs5) (hX.of hs5) ho6 hgr6 hb6
  have hx6 : ∀ b, blockOf A6 = some b → b ≠ b11 ∧ b ≠ b12 ∧ b ≠ b13 := fun b e => by
    have l11 := hv11.lt
    have l12 := hv12.lt
    have l13 := hv13.v.lt
    rcases hb6 with r | r
    · exact hXb b (by rw [← r]; exact e)
    · rw [r] at e
      injection e with e
      rw [World.size_alloc] at e
      omega
  have hr6 : ∀ k, (k = b11 ∨ k = b12 ∨ k = b13) → blockOf x.A ≠ some k := fun k hk e => by
    have := hXb k e
    omega
  have k11 := (hv11.of hs5).kept hgr6 (hr6 _ (.inl rfl))
  have k12 := (hv12.of hs5).kept hgr6 (hr6 _ (.inr (.inl rfl)))
  have k13 := (hv13.of hs5).kept hgr6 (hr6 _ (.inr (.inr rfl)))
  have hs6 : SinceOf w6 (w6.alloc (.cells #[.slice A6 n6 c6] 22)) := (SinceOf.refl _).alloc _
  have hr7 : ∀ k, (k = b11 ∨ k = b12 ∨ k = b13) → blockOf OA ≠ some k := fun k hk e => by
    have := hO.blkA k e
    omega
  have z1 := k11.lt
  have z2 := k12.lt
  have z3 := k13.v.lt
  have hOA : ∀ b, blockOf OA = some b → X.heap.size ≤ b := fun b e => by have := (hO.own.below b e).1; omega
  have hXA : ∀ b, blockOf x.A = some b → X.heap.size ≤ b := fun b e => by have := (hX.own.below b e).1; omega
  have hx6a : SinceOf X w6 := SinceOf.grown (hS.trans hs5) hgr6 hXA
  refine ⟨RowsAt.push (hp6.1.of hs6) (x := ⟨A6, c6, xs6⟩) (hp6.2.own.of hs6) hp6.2.tab hp6.2.rows hx6 ho7 hgr7 hb7 ?_, (k11.of hs6).kept hgr7 (hr7 _ (.inl rfl)), (k12.of hs6).kept hgr7 (hr7 _ (.inr (.inl rfl))), (k13.of hs6).kept hgr7 (hr7 _ (.inr (.inr rfl))), SinceOf.grown (hx6a.trans hs6) hgr7 hOA⟩
  rw [World.size_alloc]
  refine ⟨?_, ?_, ?_⟩ <;> omega
set_option maxRecDepth 100000 in
set_option maxHeartbeats 64000000 in
theorem refSplit_any (A : Option Addr) (c : Nat) (r : List (Int × Int)) (at_ : Int) (gA : Option Addr) (gc : Nat) (G : List SegP) (w : World) (h : IsVecs w A c r) (hlen : r.length < 4611686018427387904) (hG : IsSegs w gA gc G) (hG12 : G.length ≤ 12) :
    Calls Tryz.prog 26 #[.slice A r.length c, .int .i64 at_, .slice gA G.length gc] w (SplitE w (splitR r at_ G)) := by
  have V := fun W (hW : SinceOf w W) => refRingValid_any A c r W (h.of hW) hlen
  have PR := fun W (hW : SinceOf w W) (hok : okB r = true) => refProper_any A c r gA gc G W (h.of hW) hok (hG.of hW) (by omega)
  have H := Lib.hid (And.intro h hG)
  clear h hG
  obtain ⟨res, hres⟩ : ∃ t, t = splitR r at_ G := ⟨_, rfl⟩
  rw [← hres]
  have HR := Lib.hid hres
  clear hres
  cases hok : okB r
  · obtain rfl : res = ([], 11) := by rw [HR.out]; unfold splitR; rw [hok, if_neg Bool.false_ne_true]
    rw [hok] at V
    clear hok PR
    go_enter Tryz.func26, Tryz.ntmps26
    go_wp2_with fail
    refine (V _ (by (repeat (first | (with_reducible exact SinceOf.refl _) | (with_reducible assumption) | (with_reducible refine SinceOf.alloc ?_ _) | (with_reducible refine SinceOf.drew ?_) | (with_reducible refine SinceOf.drewN ?_ _) | (with_reducible refine SinceOf.later ?_ _) | (with_reducible refine SinceOf.further ?_ _) | (with_reducible refine SinceOf.setCell ?_ (by first | exact Nat.le_refl _ | (simp; done) | omega | (simp; omega)) _))))).calls.mono ?_
    rintro e _ ⟨rfl, x1, rfl⟩
    go_wp2_with fail
    go_returns
    exact splitE_err (by (repeat (first | (with_reducible exact SinceOf.refl _) | (with_reducible assumption) | (with_reducible refine SinceOf.alloc ?_ _) | (with_reducible refine SinceOf.drew ?_) | (with_reducible refine SinceOf.drewN ?_ _) | (with_reducible refine SinceOf.later ?_ _) | (with_reducible refine SinceOf.further ?_ _) | (with_reducible refine SinceOf.setCell ?_ (by first | exact Nat.le_refl _ | (simp; done) | omega | (simp; omega)) _))))
  rw [hok] at V
  replace PR := fun W hW => PR W hW hok
  by_cases ha0 : at_ < 0
  · obtain rfl : res = ([], 2) := by rw [HR.out]; unfold splitR; rw [hok, if_pos rfl, if_pos (.inl ha0)]
    have g1 : decide (at_ < 0) = true := decide_eq_true ha0
    clear hok PR
    go_enter Tryz.func26, Tryz.ntmps26
    go_wp2_with fail
    refine (V _ (by (repeat (first | (with_reducible exact SinceOf.refl _) | (with_reducible assumption) | (with_reducible refine SinceOf.alloc ?_ _) | (with_reducible refine SinceOf.drew ?_) | (with_reducible refine SinceOf.drewN ?_ _) | (with_reducible refine SinceOf.later ?_ _) | (with_reducible refine SinceOf.further ?_ _) | (with_reducible refine SinceOf.setCell ?_ (by first | exact Nat.le_refl _ | (simp; done) | omega | (simp; omega)) _))))).calls.mono ?_
    rintro e _ ⟨rfl, x1, rfl⟩
    go_wp2_with fail
    go_returns
    exact splitE_err (by (repeat (first | (with_reducible exact SinceOf.refl _) | (with_reducible assumption) | (with_reducible refine SinceOf.alloc ?_ _) | (with_reducible refine SinceOf.drew ?_) | (with_reducible refine SinceOf.drewN ?_ _) | (with_reducible refine SinceOf.later ?_ _) | (with_reducible refine SinceOf.further ?_ _) | (with_reducible refine SinceOf.setCell ?_ (by first | exact Nat.le_refl _ | (simp; done) | omega | (simp; omega)) _))))
  have g1 : decide (at_ < 0) = false := decide_eq_false ha0
  by_cases ha1 : (r.length : Int) ≤ at_
  · obtain rfl : res = ([], 2) := by rw [HR.out]; unfold splitR; rw [hok, if_pos rfl, if_pos (.inr ha1)]
    have g2 : decide ((r.length : Int) ≤ at_) = true := decide_eq_true ha1
    clear hok PR
    go_enter Tryz.func26, Tryz.ntmps26
    go_wp2_with fail
    refine (V _ (by (repeat (first | (with_reducible exact SinceOf.refl _) | (with_reducible assumption) | (with_reducible refine SinceOf.alloc ?_ _) | (with_reducible refine SinceOf.drew ?_) | (with_reducible refine SinceOf.drewN ?_ _) | (with_reducible refine SinceOf.later ?_ _) | (with_reducible refine SinceOf.further ?_ _) | (with_reducible refine SinceOf.setCell ?_ (by first | exact Nat.le_refl _ | (simp; done) | omega | (simp; omega)) _))))).calls.mono ?_
    rintro e _ ⟨rfl, x1, rfl⟩
    go_wp2_with fail
    go_returns
    exact splitE_err (by (repeat (first | (with_reducible exact SinceOf.refl _) | (with_reducible assumption) | (with_reducible refine SinceOf.alloc ?_ _) | (with_reducible refine SinceOf.drew ?_) | (with_reducible refine SinceOf.drewN ?_ _) | (with_reducible refine SinceOf.later ?_ _) | (with_reducible refine SinceOf.further ?_ _) | (with_reducible refine SinceOf.setCell ?_ (by first | exact Nat.le_refl _ | (simp; done) | omega | (simp; omega)) _))))
  have g2 : decide ((r.length : Int) ≤ at_) = false := decide_eq_false ha1
  obtain ⟨a, rfl⟩ : ∃ a : Nat, at_ = a := ⟨at_.toNat, by omega⟩
  have har : a < r.length := by omega
  have hk := okB_iff.1 hok
  have h3 := hk.three
  have h40 := hk.most
  have hE := (okB_edgeN hok).2
  have hlenE : (edgesV r).length = r.length := edgesV_len (by omega)
  have hres2 : res = if properB (edgesV r) G then (walkP (tourP (edgesV r) G a) [at0 r a], 0) else ([], 1) := by rw [HR.out]; unfold splitR; rw [hok, if_pos rfl, if_neg (by omega)]; rfl
  obtain ⟨E, hEE⟩ : ∃ E, E = edgesV r := ⟨_, rfl⟩
  obtain ⟨pb, hpb⟩ : ∃ b, b = properB (edgesV r) G := ⟨_, rfl⟩
  rw [← hpb] at PR hres2
  rw [← hEE] at hE hlenE hres2 hpb
  have HE := Lib.hid (And.intro hE (And.intro hres2 (And.intro hEE (And.intro hlenE hpb))))
  clear hE hres2 hEE hlenE hpb hk hok HR ha0 ha1
  obtain ⟨i0, hi, hz0, hz1, hz2⟩ := info_parts infoVecJ
  have HI := Lib.hid (And.intro hi (And.intro hz0 (And.intro hz1 hz2)))
  clear hi hz0 hz1 hz2
  obtain ⟨i2, hi, hz0, hz1, hz2⟩ := info_parts infoRowJ
  have HI2 := Lib.hid (And.intro hi (And.intro hz0 (And.intro hz1 hz2)))
  clear hi hz0 hz1 hz2
  cases pb
  · obtain rfl : res = ([], 1) := HE.out.2.1
    go_enter Tryz.func26, Tryz.ntmps26
    go_wp2_with fail
    refine (V _ (by (repeat (first | (with_reducible exact SinceOf.refl _) | (with_reducible assumption) | (with_reducible refine SinceOf.alloc ?_ _) | (with_reducible refine SinceOf.drew ?_) | (with_reducible refine SinceOf.drewN ?_ _) | (with_reducible refine SinceOf.later ?_ _) | (with_reducible refine SinceOf.further ?_ _) | (with_reducible refine SinceOf.setCell ?_ (by first | exact Nat.le_refl _ | (simp; done) | omega | (simp; omega)) _))))).calls.mono ?_
    rintro e _ ⟨rfl, x1, rfl⟩
    go_wp2_with fail
    refine (PR _ (by (repeat (first | (with_reducible exact SinceOf.refl _) | (with_reducible assumption) | (with_reducible refine SinceOf.alloc ?_ _) | (with_reducible refine SinceOf.drew ?_) | (with_reducible refine SinceOf.drewN ?_ _) | (with_reducible refine SinceOf.later ?_ _) | (with_reducible refine SinceOf.further ?_ _) | (with_reducible refine SinceOf.setCell ?_ (by first | exact Nat.le_refl _ | (simp; done) | omega | (simp; omega)) _))))).calls.mono ?_
    rintro e _ ⟨rfl, x2, rfl⟩
    go_wp2_with fail
    go_returns
    exact splitE_err (by (repeat (first | (with_reducible exact SinceOf.refl _) | (with_reducible assumption) | (with_reducible refine SinceOf.alloc ?_ _) | (with_reducible refine SinceOf.drew ?_) | (with_reducible refine SinceOf.drewN ?_ _) | (with_reducible refine SinceOf.later ?_ _) | (with_reducible refine SinceOf.further ?_ _) | (with_reducible refine SinceOf.setCell ?_ (by first | exact Nat.le_refl _ | (simp; done) | omega | (simp; omega)) _))))
  obtain ⟨PTH, hPTH⟩ : ∃ t, t = walkP (tourP E G a) [at0 r a] := ⟨_, rfl⟩
  obtain rfl : res = (PTH, 0) := by rw [hPTH]; exact HE.out.2.1
  have hat : at0 r a = r[a] := at0_eq har
  rw [hat] at hPTH
  go_enter Tryz.func26, Tryz.ntmps26
  go_wp2_with fail
  refine (V _ (by (repeat (first | (with_reducible exact SinceOf.refl _) | (with_reducible assumption) | (with_reducible refine SinceOf.alloc ?_ _) | (with_reducible refine SinceOf.drew ?_) | (with_reducible refine SinceOf.drewN ?_ _) | (with_reducible refine SinceOf.later ?_ _) | (with_reducible refine SinceOf.further ?_ _) | (with_reducible refine SinceOf.setCell ?_ (by first | exact Nat.le_refl _ | (simp; done) | omega | (simp; omega)) _))))).calls.mono ?_
  rintro e _ ⟨rfl, x1, rfl⟩
  clear V
  go_wp2_with fail
  refine (PR _ (by (repeat (first | (with_reducible exact SinceOf.refl _) | (with_reducible assumption) | (with_reducible refine SinceOf.alloc ?_ _) | (with_reducible refine SinceOf.drew ?_) | (with_reducible refine SinceOf.drewN ?_ _) | (with_reducible refine SinceOf.later ?_ _) | (with_reducible refine SinceOf.further ?_ _) | (with_reducible refine SinceOf.setCell ?_ (by first | exact Nat.le_refl _ | (simp; done) | omega | (simp; omega)) _))))).calls.mono ?_
  rintro e _ ⟨rfl, x2, rfl⟩
  clear PR
  have hS2 : SinceOf w x2.wd := by (repeat (first | (with_reducible exact SinceOf.refl _) | (with_reducible assumption) | (with_reducible refine SinceOf.alloc ?_ _) | (with_reducible refine SinceOf.drew ?_) | (with_reducible refine SinceOf.drewN ?_ _) | (with_reducible refine SinceOf.later ?_ _) | (with_reducible refine SinceOf.further ?_ _) | (with_reducible refine SinceOf.setCell ?_ (by first | exact Nat.le_refl _ | (simp; done) | omega | (simp; omega)) _)))
  have H2 := Lib.hid hS2
  have hv0 := H.out.1.of (w' := x2.wd) hS2
  obtain ⟨gr, offr, rfl, hr⟩ := hv0.at_ (by omega)
  have hOr := hr.there
  have p0 := hr.v0 a har
  have p1 := hr.v1 a har
  obtain ⟨⟨px, py⟩, hpt⟩ : ∃ pt, pt = r[a] := ⟨_, rfl⟩
  rw [← hpt] at p0 p1 hPTH
  simp only at p0 p1
  have hpath := path_new (base := x2.wd.heap.size) (RowsAt.zero 25 (n := 0) (by simpa using Owns.nil encG 1 x2.wd.heap.size 22 x2.wd) (A := none) (c := 0) (fun b e => trivial)) px py (Nat.le_refl _)
  have HP := Lib.hid (And.intro hPTH hpath)
  have b3 : (0 : Int) ≤ a := by omega
  have b4 : (a : Int) < r.length := by omega
  clear hv0 hr hat hpt hPTH hpath hS2
  go_wp2_with fail
  clear p0 p1
  go_loopg [8, 9, 10] r.length (fun gas s8 s9 s10 wr => ∃ (n : Nat) (OA : Option Addr) (oc : Nat) (Y : List RgR) (x : RgR), n ≤ r.length ∧ r.length - n ≤ gas ∧ s8 = .slice OA Y.length oc ∧ s9 = .slice x.A x.xs.length x.c ∧ s10 = .int .i64 n ∧ vxs Y ++ walkP ((tourP E G a).drop n) x.xs = PTH ∧ Y.length ≤ n * 12 ∧ x.xs.length ≤ n + 1 ∧ (∀ j (hj : j < Y.length), Y[j].xs.length ≤ 1000) ∧ OutAt x2.wd.heap.size wr OA oc Y ∧ PathAt x2.wd.heap.size wr OA Y x ∧ SinceOf x2.wd wr)
  case atStart => exact ⟨0, none, 0, [], ⟨some ⟨x2.wd.heap.size, 0, none⟩, 1, [(px, py)]⟩, by omega, by omega, rfl, rfl, rfl, by rw [HP.out.1]; simp [vxs], by simp, by simp, fun j hj => by simp at hj, HP.out.2.1, HP.out.2.2, by (repeat (first | (with_reducible exact SinceOf.refl _) | (with_reducible assumption) | (with_reducible refine SinceOf.alloc ?_ _) | (with_reducible refine SinceOf.drew ?_) | (with_reducible refine SinceOf.drewN ?_ _) | (with_reducible refine SinceOf.later ?_ _) | (with_reducible refine SinceOf.further ?_ _) | (with_reducible refine SinceOf.setCell ?_ (by first | exact Nat.le_refl _ | (simp; done) | omega | (simp; omega)) _)))⟩
  case round =>
    obtain ⟨n, OA, oc, Y, x, hn, hgas, rfl, rfl, rfl, hfin, hYl, hxl, hYs, hO, hX, ⟨z, rfl⟩⟩ := hrel
    have hzs := z.size
    by_cases hlt : n < r.length
    · obtain ⟨q, hq⟩ : ∃ q, q = (a + n) % r.length := ⟨_, rfl⟩
      obtain ⟨q', hq'⟩ : ∃ q', q' = (a + n + 1) % r.length := ⟨_, rfl⟩
      have hqr : q < r.length := by rw [hq]; exact Nat.mod_lt _ (by omega)
      have hqr' : q' < r.length := by rw [hq']; exact Nat.mod_lt _ (by omega)
      have hqq : (q + 1) % r.length = q' := by rw [hq, hq', Nat.mod_add_mod]
      have hqE : q < E.length := by rw [HE.out.2.2.2.1]; exact hqr
      have t1 : Int.tmod ((a : Int) + n) (r.length : Int) = (q : Int) := by rw [hq, Int.tmod_eq_emod_of_nonneg (by omega), Int.natCast_emod, Int.natCast_add]
      have t2 : ((a : Int) + n) % (r.length : Int) = (q : Int) := by rw [hq, Int.natCast_emod, Int.natCast_add]
      have t3 : Int.tmod ((a : Int) + n + 1) (r.length : Int) = (q' : Int) := by rw [hq', Int.tmod_eq_emod_of_nonneg (by omega), Int.natCast_emod, Int.natCast_add, Int.natCast_add]; rfl
      have t4 : ((a : Int) + n + 1) % (r.length : Int) = (q' : Int) := by rw [hq', Int.natCast_emod, Int.natCast_add, Int.natCast_add]; rfl
      have hn0 : ¬ (r.length : Int) = 0 := by omega
      have hrn : ¬ r = [] := fun e => by rw [e] at hlt; simp at hlt
      have w1 : IntKind.i64.wrap ((a : Int) + n) = (a : Int) + n := IntWalk.i64_in _ (by omega)
      have w2 : IntKind.i64.wrap ((a : Int) + n + 1) = (a : Int) + n + 1 := IntWalk.i64_in _ (by omega)
      have hedge : edgeAt E ((a + n) % E.length) = E[q] := by rw [HE.out.2.2.2.1, ← hq]; exact edgeAt_get hqE
      have hEq : E[q] = (r[q], r[q']) := by
        have h1 := edge_rv (r := r) (by omega) hqr
        have h2 := HE.out.2.2.1
        subst h2
        rw [h1]
        simp only [hqq]
      have htour : tourAt E G a n = (E[q], sortP (foundP E[q] G)) := by unfold tourAt; rw [hedge]
      have hdrop := tourP_drop (E := E) (G := G) (at_ := a) (n := n) (by rw [HE.out.2.2.2.1]; exact hlt)
      rw [htour] at hdrop
      rw [hdrop] at hfin
      have hN := HE.out.1 _ (List.getElem_mem hqE)
      have hap : apartP (foundP E[q] G) = true := by have := proper_apart HE.out.2.2.2.2.symm hqE; rw [edgeAt_get hqE] at this; exact this
      rw [hEq] at hfin hN hap
      have hv0 := H.out.1.of (w' := z.wd) (H2.out.trans (by (repeat (first | (with_reducible exact SinceOf.refl _) | (with_reducible assumption) | (with_reducible refine SinceOf.alloc ?_ _) | (with_reducible refine SinceOf.drew ?_) | (with_reducible refine SinceOf.drewN ?_ _) | (with_reducible refine SinceOf.later ?_ _) | (with_reducible refine SinceOf.further ?_ _) | (with_reducible refine SinceOf.setCell ?_ (by first | exact Nat.le_refl _ | (simp; done) | omega | (simp; omega)) _)))))
      obtain ⟨gr', offr', egr, hr⟩ := hv0.at_ (by omega)
      injection egr with egr
      injection egr with j1 j2 j3
      subst j1 j2
      have hOr' := hr.there
      have a0 := hr.v0 q hqr
      have a1 := hr.v1 q hqr
      have a2 := hr.v0 q' hqr'
      have a3 := hr.v1 q' hqr'
      obtain ⟨⟨ax, ay⟩, hpa⟩ : ∃ t, t = r[q] := ⟨_, rfl⟩
      obtain ⟨⟨bx, by'⟩, hpb⟩ : ∃ t, t = r[q'] := ⟨_, rfl⟩
      rw [← hpa] at a0 a1 hfin hN hap
      rw [← hpb] at a2 a3 hfin hN hap
      simp only at a0 a1 a2 a3
      have b5 : (0 : Int) ≤ q := by omega
      have b6 : (q : Int) < r.length := by omega
      have b7 : (0 : Int) ≤ q' := by omega
      have b8 : (q' : Int) < r.length := by omega
      have HF := Lib.hid (And.intro hfin (And.intro hYs (And.intro hO (And.intro hX (And.intro hN hap)))))
      clear hfin hYs hO hX hN hap hr hv0 hdrop htour hEq hedge hqq hpa hpb hq hq' hqE
      go_upto_region 12 with fail
      go_cut [11] from 41 to 60 (fun s11 wx => ∃ b11 : Nat, s11 = .pointer (some ⟨b11, 0, none⟩) ∧ SegV wx b11 ((ax, ay), (bx, by')) ∧ z.wd.heap.size ≤ b11 ∧ SinceOf z.wd wx)
      case first =>
        refine regionL [21] (S := (fun w' => w'.cell? ⟨gr, offr + q * 2, none⟩ = some (.int .i64 ax) ∧ w'.cell? ⟨gr, offr + q * 2 + 1, none⟩ = some (.int .i64 ay) ∧ w'.cell? ⟨gr, offr + q' * 2, none⟩ = some (.int .i64 bx) ∧ w'.cell? ⟨gr, offr + q' * 2 + 1, none⟩ = some (.int .i64 by'))) (by kernel_rfl) ?_ (fun hHeld0 => ?_)
        · simp [go_sem, *]
        refine takeL (i := 0) (d := some 41) (v := ?_) rfl rfl (by kernel_rfl) (by kernel_rfl) (by kernel_rfl) (by kernel_rfl) (by kernel_rfl) (fun _ _ _ h => h) (Or.inl ⟨by rfl, ?_⟩) (by assumption) ?_
        rotate_left 1
        · (intro w hSw; (try dsimp only at hSw); go_simp) <;> (with_reducible rfl)
        (try simp only [Act.put, List.setIfInBounds_toArray, List.set_cons_zero, List.set_cons_succ])
        refine takeL (i := 1) (d := some 42) (v := ?_) rfl rfl (by kernel_rfl) (by kernel_rfl) (by kernel_rfl) (by kernel_rfl) (by kernel_rfl) (fun _ _ _ h => h) (Or.inl ⟨by rfl, ?_⟩) (by assumption) ?_
        rotate_left 1
        · (intro w hSw; (try dsimp only at hSw); go_simp) <;> (with_reducible rfl)
        (try simp only [Act.put, List.setIfInBounds_toArray, List.set_cons_zero, List.set_cons_succ])
        refine takeL (i := 2) (d := some 43) (v := ?_) rfl rfl (by kernel_rfl) (by kernel_rfl) (by kernel_rfl) (by kernel_rfl) (by kernel_rfl) (fun _ _ _ h => h) (Or.inl ⟨by rfl, ?_⟩) (by assumption) ?_
        rotate_left 1
        · (intro w hSw; (try dsimp only at hSw); go_simp) <;> (with_reducible rfl)
        (try simp only [Act.put, List.setIfInBounds_toArray, List.set_cons_zero, List.set_cons_succ])
        refine takeL (i := 3) (d := some 44) (v := ?_) rfl rfl (by kernel_rfl) (by kernel_rfl) (by kernel_rfl) (by kernel_rfl) (by kernel_rfl) (fun _ _ _ h => h) (Or.inl ⟨by rfl, ?_⟩) (by assumption) ?_
        rotate_left 1
        · (intro w hSw; (try dsimp only at hSw); go_simp) <;> (with_reducible rfl)
        (try simp only [Act.put, List.setIfInBounds_toArray, List.set_cons_zero, List.set_cons_succ])
        refine takeL (i := 4) (d := some 45) (v := ?_) rfl rfl (by kernel_rfl) (by kernel_rfl) (by kernel_rfl) (by kernel_rfl) (by kernel_rfl) (fun _ _ _ h => h) (Or.inl ⟨by rfl, ?_⟩) (by assumption) ?_
        rotate_left 1
        · (intro w hSw; (try dsimp only at hSw); go_simp) <;> (with_reducible rfl)
        (try simp only [Act.put, List.setIfInBounds_toArray, List.set_cons_zero, List.set_cons_succ])
        refine takeL (i := 5) (d := some 46) (v := ?_) rfl rfl (by kernel_rfl) (by kernel_rfl) (by kernel_rfl) (by kernel_rfl) (by kernel_rfl) (fun _ _ _ h => h) (Or.inl ⟨by rfl, ?_⟩) (by assumption) ?_
        rotate_left 1
        · (intro w hSw; (try dsimp only at hSw); go_simp) <;> (with_reducible rfl)
        (try simp only [Act.put, List.setIfInBounds_toArray, List.set_cons_zero, List.set_cons_succ])
        refine takeL (i := 6) (d := some 47) (v := ?_) rfl rfl (by kernel_rfl) (by kernel_rfl) (by kernel_rfl) (by kernel_rfl) (by kernel_rfl) (fun _ _ _ h => h) (Or.inl ⟨by rfl, ?_⟩) (by assumption) ?_
        rotate_left 1
        · (intro w hSw; (try dsimp only at hSw); go_simp) <;> (with_reducible rfl)
        (try simp only [Act.put, List.setIfInBounds_toArray, List.set_cons_zero, List.set_cons_succ])
        refine takeL (i := 7) (d := some 48) (v := ?_) rfl rfl (by kernel_rfl) (by kernel_rfl) (by kernel_rfl) (by kernel_rfl) (by kernel_rfl) (fun _ _ _ h => h) (Or.inl ⟨by rfl, ?_⟩) (by assumption) ?_
        rotate_left 1
        · (intro w hSw; (try dsimp only at hSw); go_simp) <;> (with_reducible rfl)
        (try simp only [Act.put, List.setIfInBounds_toArray, List.set_cons_zero, List.set_cons_succ])
        refine takeL (i := 8) (d := some 49) (v := ?_) rfl rfl (by kernel_rfl) (by kernel_rfl) (by kernel_rfl) (by kernel_rfl) (by kernel_rfl) (fun _ _ _ h => h) (Or.inl ⟨by rfl, ?_⟩) (by assumption) ?_
        rotate_left 1
        · (intro w hSw; (try dsimp only at hSw); go_simp) <;> (with_reducible rfl)
        (try simp only [Act.put, List.setIfInBounds_toArray, List.set_cons_zero, List.set_cons_succ])
        refine takeL (i := 9) (d := some 50) (v := ?_) rfl rfl (by kernel_rfl) (by kernel_rfl) (by kernel_rfl) (by kernel_rfl) (by kernel_rfl) (fun _ _ _ h => h) (Or.inl ⟨by rfl, ?_⟩) (by assumption) ?_
        rotate_left 1
        · (intro w hSw; (try dsimp only at hSw); go_simp) <;> (with_reducible rfl)
        (try simp only [Act.put, List.setIfInBounds_toArray, List.set_cons_zero, List.set_cons_succ])
        refine takeL (i := 10) (d := some 51) (v := ?_) rfl rfl (by kernel_rfl) (by kernel_rfl) (by kernel_rfl) (by kernel_rfl) (by kernel_rfl) (fun _ _ _ h => h) (Or.inl ⟨by rfl, ?_⟩) (by assumption) ?_
        rotate_left 1
        · (intro w hSw; (try dsimp only at hSw); go_simp) <;> (with_reducible rfl)
        (try simp only [Act.put, List.setIfInBounds_toArray, List.set_cons_zero, List.set_cons_succ])
        refine takeL (i := 11) (d := some 52) (v := ?_) rfl rfl (by kernel_rfl) (by kernel_rfl) (by kernel_rfl) (by kernel_rfl) (by kernel_rfl) (fun _ _ _ h => h) (Or.inl ⟨by rfl, ?_⟩) (by assumption) ?_
        rotate_left 1
        · (intro w hSw; (try dsimp only at hSw); go_simp) <;> (with_reducible rfl)
        (try simp only [Act.put, List.setIfInBounds_toArray, List.set_cons_zero, List.set_cons_succ])
        refine takeL (i := 12) (d := some 53) (v := ?_) rfl rfl (by kernel_rfl) (by kernel_rfl) (by kernel_rfl) (by kernel_rfl) (by kernel_rfl) (fun _ _ _ h => h) (Or.inl ⟨by rfl, ?_⟩) (by assumption) ?_
        rotate_left 1
        · (intro w hSw; (try dsimp only at hSw); go_simp) <;> (with_reducible rfl)
        (try simp only [Act.put, List.setIfInBounds_toArray, List.set_cons_zero, List.set_cons_succ])
        refine takeL (i := 13) (d := some 54) (v := ?_) rfl rfl (by kernel_rfl) (by kernel_rfl) (by kernel_rfl) (by kernel_rfl) (by kernel_rfl) (fun _ _ _ h => h) (Or.inl ⟨by rfl, ?_⟩) (by assumption) ?_
        rotate_left 1
        · (intro w hSw; (try dsimp only at hSw); go_simp) <;> (with_reducible rfl)
        (try simp only [Act.put, List.setIfInBounds_toArray, List.set_cons_zero, List.set_cons_succ])
        refine takeL (i := 14) (d := some 55) (v := ?_) rfl rfl (by kernel_rfl) (by kernel_rfl) (by kernel_rfl) (by kernel_rfl) (by kernel_rfl) (fun _ _ _ h => h) (Or.inl ⟨by rfl, ?_⟩) (by assumption) ?_
        rotate_left 1
        · (intro w hSw; (try dsimp only at hSw); go_simp) <;> (with_reducible rfl)
        (try simp only [Act.put, List.setIfInBounds_toArray, List.set_cons_zero, List.set_cons_succ])
        refine takeL (i := 15) (d := some 56) (v := ?_) rfl rfl (by kernel_rfl) (by kernel_rfl) (by kernel_rfl) (by kernel_rfl) (by kernel_rfl) (fun _ _ _ h => h) (Or.inl ⟨by rfl, ?_⟩) (by assumption) ?_
        rotate_left 1
        · (intro w hSw; (try dsimp only at hSw); go_simp) <;> (with_reducible rfl)
        (try simp only [Act.put, List.setIfInBounds_toArray, List.set_cons_zero, List.set_cons_succ])
        refine takeL (i := 16) (d := some 57) (v := ?_) rfl rfl (by kernel_rfl) (by kernel_rfl) (by kernel_rfl) (by kernel_rfl) (by kernel_rfl) (fun _ _ _ h => h) (Or.inl ⟨by rfl, ?_⟩) (by assumption) ?_
        rotate_left 1
        · (intro w hSw; (try dsimp only at hSw); go_simp) <;> (with_reducible rfl)
        (try simp only [Act.put, List.setIfInBounds_toArray, List.set_cons_zero, List.set_cons_succ])
        refine takeL (i := 17) (d := some 58) (v := ?_) rfl rfl (by kernel_rfl) (by kernel_rfl) (by kernel_rfl) (by kernel_rfl) (by kernel_rfl) (fun _ _ _ h => h) (Or.inl ⟨by rfl, ?_⟩) (by assumption) ?_
        rotate_left 1
        · (intro w hSw; (try dsimp only at hSw); go_simp) <;> (with_reducible rfl)
        (try simp only [Act.put, List.setIfInBounds_toArray, List.set_cons_zero, List.set_cons_succ])
        refine takeL (i := 18) (d := some 59) (v := ?_) rfl rfl (by kernel_rfl) (by kernel_rfl) (by kernel_rfl) (by kernel_rfl) (by kernel_rfl) (fun _ _ _ h => h) (Or.inl ⟨by rfl, ?_⟩) (by assumption) ?_
        rotate_left 1
        · (intro w hSw; (try dsimp only at hSw); go_simp) <;> (with_reducible rfl)
        (try simp only [Act.put, List.setIfInBounds_toArray, List.set_cons_zero, List.set_cons_succ])
        refine takeL (i := 19) (d := some 60) (v := ?_) rfl rfl (by kernel_rfl) (by kernel_rfl) (by kernel_rfl) (by kernel_rfl) (by kernel_rfl) (fun _ _ _ h => h) (Or.inl ⟨by rfl, ?_⟩) (by assumption) ?_
        rotate_left 1
        · (intro w hSw; (try dsimp only at hSw); go_simp) <;> (with_reducible rfl)
        (try simp only [Act.put, List.setIfInBounds_toArray, List.set_cons_zero, List.set_cons_succ])
        refine stepL (i := 20) (by kernel_rfl) rfl (fun K' hK => ?_)
        go_simp
        refine hK.out _ _ ?_ (fun hHeld1 => ?_)
        · simp [go_sem, *]
        clear hK K' hHeld0
        refine lastL (i := 21) (by kernel_rfl) (by rfl) rfl (fun K' hK => ?_)
        go_simp
        refine hK.out _ _ ?_
        refine doneL (by kernel_rfl) ?_ _
        go_wp2_with fail
        go_meet
        exact ⟨z.wd.heap.size, rfl, SegV.of (W := z.wd.alloc (.cells #[.int .i64 ax, .int .i64 ay, .int .i64 bx, .int .i64 by'] 27)) ⟨by simp, by simp, by simp, by simp, by simp⟩ (by (repeat (first | (with_reducible exact SinceOf.refl _) | (with_reducible assumption) | (with_reducible refine SinceOf.alloc ?_ _) | (with_reducible refine SinceOf.drew ?_) | (with_reducible refine SinceOf.drewN ?_ _) | (with_reducible refine SinceOf.later ?_ _) | (with_reducible refine SinceOf.further ?_ _) | (with_reducible refine SinceOf.setCell ?_ (by first | exact Nat.le_refl _ | (simp; done) | omega | (simp; omega)) _)))), Nat.le_refl _, by (repeat (first | (with_reducible exact SinceOf.refl _) | (with_reducible assumption) | (with_reducible refine SinceOf.alloc ?_ _) | (with_reducible refine SinceOf.drew ?_) | (with_reducible refine SinceOf.drewN ?_ _) | (with_reducible refine SinceOf.later ?_ _) | (with_reducible refine SinceOf.further ?_ _) | (with_reducible refine SinceOf.setCell ?_ (by first | exact Nat.le_refl _ | (simp; done) | omega | (simp; omega)) _)))⟩
      case rest =>
        obtain ⟨b11, rfl, hv11, h11z, ⟨z1, rfl⟩⟩ := hcut
        have hz1 := z1.size
        have o11 : Nonempty (Old z1.wd b11) := ⟨⟨hv11.lt⟩⟩
        have c0 := hv11.c0
        have c1 := hv11.c1
        have c2 := hv11.c2
        have c3 := hv11.c3
        simp only at c0 c1 c2 c3
        have NX := fun (f : Int) (h0 : 0 ≤ f) (h1 : f ≤ stepsK ((ax, ay), (bx, by')).1 ((ax, ay), (bx, by')).2) (W : World) (hW : SinceOf w W) => refNext_any ((ax, ay), (bx, by')) HF.out.2.2.2.2.1 f h0 h1 gA gc G W (H.out.2.of hW) (by omega)
        have HNX := Lib.hid NX
        have hsp := stepsK_nonneg ((ax, ay), (bx, by')).1 ((ax, ay), (bx, by')).2
        have NX0 := fun W hW => NX 0 (Int.le_refl _) hsp W hW
        rw [pointK_0] at NX0
        obtain ⟨SF, hSF⟩ : ∃ l, l = sortP (foundP ((ax, ay), (bx, by')) G) := ⟨_, rfl⟩
        have hSFin : ∀ c ∈ SF, 0 < c.1 ∧ c.1 < c.2 ∧ c.2 < stepsK ((ax, ay), (bx, by')).1 ((ax, ay), (bx, by')).2 := fun c hc => foundP_in HF.out.2.2.2.2.1 ((sortP_perm _).mem_iff.1 (by rw [← hSF]; exact hc))
        have hSFa : SF.Pairwise fun a b => a.2 < b.1 := by rw [hSF]; exact sortP_asc (fun c hc => (foundP_in HF.out.2.2.2.2.1 hc).2.1) HF.out.2.2.2.2.2
        have hSFl : SF.length ≤ 12 := by
          rw [hSF, (sortP_perm _).length_eq]
          have := foundP_len ((ax, ay), (bx, by')) G
          omega
        have hfin2 : vxs Y ++ ((cutP ((ax, ay), (bx, by')) SF x.xs).1 ++ walkP ((tourP E G a).drop (n + 1)) (cutP ((ax, ay), (bx, by')) SF x.xs).2) = PTH := by rw [hSF]; exact HF.out.1
        have HSF := Lib.hid (And.intro hSF (And.intro hSFin (And.intro hSFa hfin2)))
        have HV11 := Lib.hid hv11
        clear hSF hSFin hSFa hfin2 NX hv11 a0 a1 a2 a3
        have hv12 : VarJ (z1.wd.alloc (.cells #[.int .i64 ax, .int .i64 ay] 25)) z1.wd.heap.size (ax, ay) := VarJ.new _ _ _ _
        have HV12 := Lib.hid hv12
        clear hv12
        go_wp2_with fail
        refine (NX0 _ (H2.out.trans (by (repeat (first | (with_reducible exact SinceOf.refl _) | (with_reducible assumption) | (with_reducible refine SinceOf.alloc ?_ _) | (with_reducible refine SinceOf.drew ?_) | (with_reducible refine SinceOf.drewN ?_ _) | (with_reducible refine SinceOf.later ?_ _) | (with_reducible refine SinceOf.further ?_ _) | (with_reducible refine SinceOf.setCell ?_ (by first | exact Nat.le_refl _ | (simp; done) | omega | (simp; omega)) _)))))).mono ?_
        rintro e _ ⟨rfl, ⟨z2, rfl⟩⟩
        have hz2 := z2.size
        (try simp only [World.size_alloc] at hz2)
        clear NX0
        obtain ⟨o, ho⟩ : ∃ o, o = bestK ((ax, ay), (bx, by')) 0 G none := ⟨_, rfl⟩
        rw [← ho]
        obtain ⟨os, hos⟩ : ∃ os, os = optS o := ⟨_, rfl⟩
        rw [← hos]
        have hv13 : SegX (z2.wd.alloc (.cells #[.int .i64 os.1.1, .int .i64 os.1.2, .int .i64 os.2.1, .int .i64 os.2.2] 27)) z2.wd.heap.size os := ⟨⟨by simp, by simp, by simp, by simp, by simp⟩, fun j => by simp⟩
        obtain ⟨b12, hb12⟩ : ∃ b, b = z1.wd.heap.size := ⟨_, rfl⟩
        rw [← hb12] at HV12 hz2
        have HB := Lib.hid (And.intro ho (And.intro hos (And.intro hv13 hb12)))
        clear ho hos hv13
        go_wp2_with fail
        rw [← hb12]
        clear hb12
        have hPP : ∀ b, b < z.wd.heap.size → b ≠ b11 ∧ b ≠ b12 ∧ b ≠ z2.wd.heap.size := fun b hb => by have := HB.out.2.2.2; omega
        have hO9 : RowsAt 22 25 x2.wd.heap.size (fun b => b ≠ b11 ∧ b ≠ b12 ∧ b ≠ z2.wd.heap.size) z1.wd OA oc Y := (RowsAt.mono HF.out.2.2.1 (fun b _ h _ => hPP b h)).of (by (repeat (first | (with_reducible exact SinceOf.refl _) | (with_reducible assumption) | (with_reducible refine SinceOf.alloc ?_ _) | (with_reducible refine SinceOf.drew ?_) | (with_reducible refine SinceOf.drewN ?_ _) | (with_reducible refine SinceOf.later ?_ _) | (with_reducible refine SinceOf.further ?_ _) | (with_reducible refine SinceOf.setCell ?_ (by first | exact Nat.le_refl _ | (simp; done) | omega | (simp; omega)) _))))
        have hX9 : ∀ b, blockOf x.A = some b → b ≠ b11 ∧ b ≠ b12 ∧ b ≠ z2.wd.heap.size := fun b e => hPP b (by have := (HF.out.2.2.2.1.own.below b e).2; omega)
        have HO9 := Lib.hid (And.intro hO9 hX9)
        clear hO9 hX9 hPP
        go_loopg [8, 9, 13, 14] SF.length (fun gas s8 s9 s13 s14 wr => ∃ (j : Nat) (f : Int) (o : Option SegP) (OA : Option Addr) (oc : Nat) (Y : List RgR) (x : RgR) (b13 : Nat), j ≤ SF.length ∧ SF.length - j ≤ gas ∧ s8 = .slice OA Y.length oc ∧ s9 = .slice x.A x.xs.length x.c ∧ s13 = .pointer (some ⟨b13, 0, none⟩) ∧ s14 = .bool o.isSome ∧ o = bestK ((ax, ay), (bx, by')) f G none ∧ (0 ≤ f ∧ f ≤ stepsK ((ax, ay), (bx, by')).1 ((ax, ay), (bx, by')).2) ∧ (∀ i (h : i < SF.length), i < j → SF[i].1 < f) ∧ (∀ i (h : i < SF.length), j ≤ i → f ≤ SF[i].1) ∧ vxs Y ++ ((cutP ((ax, ay), (bx, by')) (SF.drop j) x.xs).1 ++ walkP ((tourP E G a).drop (n + 1)) (cutP ((ax, ay), (bx, by')) (SF.drop j) x.xs).2) = PTH ∧ Y.length ≤ n * 12 + j ∧ x.xs.length ≤ n + 1 ∧ (∀ j (hj : j < Y.length), Y[j].xs.length ≤ 1000) ∧ RowsAt 22 25 x2.wd.heap.size (fun b => b ≠ b11 ∧ b ≠ b12 ∧ b ≠ b13) wr OA oc Y ∧ PathAt x2.wd.heap.size wr OA Y x ∧ (∀ b, blockOf x.A = some b → b ≠ b11 ∧ b ≠ b12 ∧ b ≠ b13) ∧ SegV wr b11 ((ax, ay), (bx, by')) ∧ VarJ wr b12 (pointK ((ax, ay), (bx, by')).1 ((ax, ay), (bx, by')).2 f) ∧ SegX wr b13 (optS o) ∧ (b11 ≠ b12 ∧ b11 ≠ b13 ∧ b12 ≠ b13) ∧ (x2.wd.heap.size ≤ b12 ∧ x2.wd.heap.size ≤ b13) ∧ SinceOf x2.wd wr)
        case atStart =>
          have hlt11 := HV11.out.lt
          have h12 := HB.out.2.2.2
          refine ⟨0, 0, o, OA, oc, Y, x, z2.wd.heap.size, by omega, by omega, rfl, rfl, rfl, rfl, HB.out.1, ⟨Int.le_refl _, hsp⟩, fun i h hi => by omega, fun i h hi => by have := (HSF.out.2.1 _ (List.getElem_mem h)).1; omega, by rw [List.drop_zero]; exact HSF.out.2.2.2, by omega, hxl, HF.out.2.1, HO9.out.1.of (by (repeat (first | (with_reducible exact SinceOf.refl _) | (with_reducible assumption) | (with_reducible refine SinceOf.alloc ?_ _) | (with_reducible refine SinceOf.drew ?_) | (with_reducible refine SinceOf.drewN ?_ _) | (with_reducible refine SinceOf.later ?_ _) | (with_reducible refine SinceOf.further ?_ _) | (with_reducible refine SinceOf.setCell ?_ (by first | exact Nat.le_refl _ | (simp; done) | omega | (simp; omega)) _)))), HF.out.2.2.2.1.of (by (repeat (first | (with_reducible exact SinceOf.refl _) | (with_reducible assumption) | (with_reducible refine SinceOf.alloc ?_ _) | (with_reducible refine SinceOf.drew ?_) | (with_reducible refine SinceOf.drewN ?_ _) | (with_reducible refine SinceOf.later ?_ _) | (with_reducible refine SinceOf.further ?_ _) | (with_reducible refine SinceOf.setCell ?_ (by first | exact Nat.le_refl _ | (simp; done) | omega | (simp; omega)) _)))), HO9.out.2, HV11.out.of (by (repeat (first | (with_reducible exact SinceOf.refl _) | (with_reducible assumption) | (with_reducible refine SinceOf.alloc ?_ _) | (with_reducible refine SinceOf.drew ?_) | (with_reducible refine SinceOf.drewN ?_ _) | (with_reducible refine SinceOf.later ?_ _) | (with_reducible refine SinceOf.further ?_ _) | (with_reducible refine SinceOf.setCell ?_ (by first | exact Nat.le_refl _ | (simp; done) | omega | (simp; omega)) _)))), ?_, ?_, by omega, by omega, by (repeat (first | (with_reducible exact SinceOf.refl _) | (with_reducible assumption) | (with_reducible refine SinceOf.alloc ?_ _) | (with_reducible refine SinceOf.drew ?_) | (with_reducible refine SinceOf.drewN ?_ _) | (with_reducible refine SinceOf.later ?_ _) | (with_reducible refine SinceOf.further ?_ _) | (with_reducible refine SinceOf.setCell ?_ (by first | exact Nat.le_refl _ | (simp; done) | omega | (simp; omega)) _)))⟩
          · rw [pointK_0]; exact HV12.out.of (by (repeat (first | (with_reducible exact SinceOf.refl _) | (with_reducible assumption) | (with_reducible refine SinceOf.alloc ?_ _) | (with_reducible refine SinceOf.drew ?_) | (with_reducible refine SinceOf.drewN ?_ _) | (with_reducible refine SinceOf.later ?_ _) | (with_reducible refine SinceOf.further ?_ _) | (with_reducible refine SinceOf.setCell ?_ (by first | exact Nat.le_refl _ | (simp; done) | omega | (simp; omega)) _))))
          · rw [← HB.out.2.1]; exact HB.out.2.2.1
        case round =>
          obtain ⟨j, f, o, OA, oc, Y, x, b13, hj, hgas2, rfl, rfl, rfl, rfl, ho, ⟨hf0, hf1⟩, hlo, hhi, hfin2, hY2, hx2, hYs, hO, hX, hXb, hv11, hv12, hv13, ⟨n1, n2, n3⟩, ⟨m1, m2⟩, ⟨v, rfl⟩⟩ := hrel
          have hvz := v.size
          have hbs := best_sorted (s := ((ax, ay), (bx, by'))) (G := G) HF.out.2.2.2.2.1 HF.out.2.2.2.2.2 (f := f) (j := j) (by rw [← HSF.out.1]; exact hlo) (by rw [← HSF.out.1]; exact hhi)
          rw [← ho, ← HSF.out.1] at hbs
          have o11' : Nonempty (Old v.wd b11) := ⟨⟨hv11.lt⟩⟩
          have o12' : Nonempty (Old v.wd b12) := ⟨⟨hv12.lt⟩⟩
          have o13' : Nonempty (Old v.wd b13) := ⟨⟨hv13.v.lt⟩⟩
          have c0 := hv11.c0
          have c1 := hv11.c1
          have c2 := hv11.c2
          have c3 := hv11.c3
          simp only at c0 c1 c2 c3
          rcases hbs with ⟨hnone, hjl⟩ | ⟨g, hsome, hga, hjl, hgp⟩
          · subst hnone
            have hfin3 : vxs Y ++ walkP ((tourP E G a).drop (n + 1)) (x.xs ++ [(bx, by')]) = PTH := by
              rw [← hfin2, List.drop_of_length_le hjl, cutP]
              simp
            obtain ⟨xA, xc, xs⟩ := x
            simp only at hx2 hfin3
            have HZ := Lib.hid (And.intro hfin3 (And.intro hYs (And.intro hO hX)))
            have hOv := hO.of (W' := v.wd) (SinceOf.refl _)
            clear hfin2 hfin3 hYs hO hX hlo hhi ho hv11 hv12 hv13 hXb hOv
            simp only [Option.isSome_none]
            go_wp2_with fail
            go_region_held3 (fun w' => w'.cell? ⟨b11, 2, none⟩ = some (.int .i64 bx) ∧ w'.cell? ⟨b11, 3, none⟩ = some (.int .i64 by')) ((simp [go_sem, *]))
              (first
                | (refine step_append_row (by rfl) (.tmp 92) (.tmp 93) 22 (by rfl) encV_len (by omega) encV_one i0 _ 16 Tryz.underlying22 HI.out.1 HI.out.2.1 HI.out.2.2.1 HI.out.2.2.2 rfl (l := []) (c := 0) (base := v.wd.heap.size) (by rfl) ?own (m := xs) (by rfl) ?hm ?h63 ?hby ?hbase ?_
                   case own => first | exact ownV_empty _ _ (by first | exact Nat.le_refl _ | (simp; done) | (simp; omega)) | exact (ownV_empty v.wd v.wd.heap.size (Nat.le_refl _)).of (by (repeat (first | (with_reducible exact SinceOf.refl _) | (with_reducible assumption) | (with_reducible refine SinceOf.alloc ?_ _) | (with_reducible refine SinceOf.drew ?_) | (with_reducible refine SinceOf.drewN ?_ _) | (with_reducible refine SinceOf.later ?_ _) | (with_reducible refine SinceOf.further ?_ _) | (with_reducible refine SinceOf.setCell ?_ (by first | exact Nat.le_refl _ | (simp; done) | omega | (simp; omega)) _)))) | (have q := ownV_empty (v.wd.alloc (.cells #[.int .i64 bx, .int .i64 by'] 25)) v.wd.heap.size (by simp); rw [show (v.wd.alloc (.cells #[.int .i64 bx, .int .i64 by'] 25)).heap.size = v.wd.heap.size + 1 from by simp] at q; first | exact q | exact q.of ((SinceOf.refl _).drew))
                   case hm => exact (HZ.out.2.2.2.own.isRow encV_len).of (by (repeat (first | (with_reducible exact SinceOf.refl _) | (with_reducible assumption) | (with_reducible refine SinceOf.alloc ?_ _) | (with_reducible refine SinceOf.drew ?_) | (with_reducible refine SinceOf.drewN ?_ _) | (with_reducible refine SinceOf.later ?_ _) | (with_reducible refine SinceOf.further ?_ _) | (with_reducible refine SinceOf.setCell ?_ (by first | exact Nat.le_refl _ | (simp; done) | omega | (simp; omega)) _))))
                   case h63 => unfold maxLen; simp; omega
                   case hby => simp; omega
                   case hbase => first | exact Nat.le_refl _ | (simp; done) | (simp; omega)
                   intro A5 c5 w5 ho5 hgr5 hb5
                   have hs5 : SinceOf v.wd w5 := SinceOf.grown (by (repeat (first | (with_reducible exact SinceOf.refl _) | (with_reducible assumption) | (with_reducible refine SinceOf.alloc ?_ _) | (with_reducible refine SinceOf.drew ?_) | (with_reducible refine SinceOf.drewN ?_ _) | (with_reducible refine SinceOf.later ?_ _) | (with_reducible refine SinceOf.further ?_ _) | (with_reducible refine SinceOf.setCell ?_ (by first | exact Nat.le_refl _ | (simp; done) | omega | (simp; omega)) _)))) hgr5 (by intro q hq; simp [blockOf] at hq; omega)
                   have e25 : w5.cell? ⟨b11, 2, none⟩ = some (.int .i64 bx) := by (obtain ⟨v5, rfl⟩ := hs5; simp [go_sem, *])
                   have e35 : w5.cell? ⟨b11, 3, none⟩ = some (.int .i64 by') := by (obtain ⟨v5, rfl⟩ := hs5; simp [go_sem, *])
                   have ho15 : Nonempty (Old w5 b11) := o11'.elim fun q => ⟨⟨Nat.lt_of_lt_of_le q.lt hs5.size⟩⟩
                   rw [List.length_nil, Nat.zero_add])
                | (refine step_append_row (by rfl) (.tmp 94) (.tmp 97) 22 (by rfl) encV_len (by omega) encV_one i0 _ 16 Tryz.underlying22 HI.out.1 HI.out.2.1 HI.out.2.2.1 HI.out.2.2.2 rfl (l := [] ++ xs) (A := A5) (c := c5) (base := v.wd.heap.size) (by rfl) ?own (m := [(bx, by')]) (by rfl) ?hm ?h63 ?hby ?hbase ?_
                   case own => first | exact ho5 | exact ho5.of (by (repeat (first | (with_reducible exact SinceOf.refl _) | (with_reducible assumption) | (with_reducible refine SinceOf.alloc ?_ _) | (with_reducible refine SinceOf.drew ?_) | (with_reducible refine SinceOf.drewN ?_ _) | (with_reducible refine SinceOf.later ?_ _) | (with_reducible refine SinceOf.further ?_ _) | (with_reducible refine SinceOf.setCell ?_ (by first | exact Nat.le_refl _ | (simp; done) | omega | (simp; omega)) _))))
                   case hm => first
                     | exact isRow_atV _ _ _ _ (by first | rfl | simp)
                     | (refine IsRow.kept ?q1 hgr5 ?q2
                        case q1 => first | exact isRow_atV _ _ _ _ (by first | rfl | (simp; done)) | exact (isRow_atV (v.wd.alloc (.cells #[] 25)) _ bx by' (by first | rfl | (simp; done))).of ((SinceOf.refl _).drew) | exact (isRow_atV v.wd _ bx by' rfl).of (((SinceOf.refl _).alloc _).drew) | exact (isRow_atV v.wd.drew _ bx by' rfl).of ((SinceOf.refl _).alloc _)
                        case q2 => intro b hb e; simp [blockOf] at hb e; omega)
                   case h63 => unfold maxLen; simp; omega
                   case hby => simp; omega
                   case hbase => have := hs5.size; first | omega | (simp; omega)
                   intro A6 c6 w6 ho6 hgr6 hb6
                   have hs6 : SinceOf v.wd w6 := SinceOf.grown (by first | exact hs5 | exact hs5.alloc _ | (repeat (first | (with_reducible exact SinceOf.refl _) | (with_reducible assumption) | (with_reducible refine SinceOf.alloc ?_ _) | (with_reducible refine SinceOf.drew ?_) | (with_reducible refine SinceOf.drewN ?_ _) | (with_reducible refine SinceOf.later ?_ _) | (with_reducible refine SinceOf.further ?_ _) | (with_reducible refine SinceOf.setCell ?_ (by first | exact Nat.le_refl _ | (simp; done) | omega | (simp; omega)) _)))) hgr6 (by intro q hq; exact (ho5.below q hq).1)
                   have e26 : w6.cell? ⟨b11, 2, none⟩ = some (.int .i64 bx) := by (obtain ⟨v6, rfl⟩ := hs6; simp [go_sem, *])
                   have e36 : w6.cell? ⟨b11, 3, none⟩ = some (.int .i64 by') := by (obtain ⟨v6, rfl⟩ := hs6; simp [go_sem, *])
                   have ho16 : Nonempty (Old w6 b11) := o11'.elim fun q => ⟨⟨Nat.lt_of_lt_of_le q.lt hs6.size⟩⟩))
            all_goals
              have hP6 : PathAt x2.wd.heap.size w6 OA Y ⟨A6, c6, xs ++ [(bx, by')]⟩ := ⟨by have := ho6.base_le (show x2.wd.heap.size ≤ v.wd.heap.size by omega); simpa using this, fun b e q => by have := (ho6.below b e).1; have := (HZ.out.2.2.1.own.below b q).2; omega, fun j hj b e q => by have := (ho6.below b e).1; have := ((HZ.out.2.2.1.rows j hj).below b q).2; omega⟩
              have hO6 := (HZ.out.2.2.1.mono (Q := fun _ => True) (fun _ _ _ _ => trivial)).of hs6
              have hsx6 : SinceOf x2.wd w6 := (show SinceOf x2.wd v.wd by (repeat (first | (with_reducible exact SinceOf.refl _) | (with_reducible assumption) | (with_reducible refine SinceOf.alloc ?_ _) | (with_reducible refine SinceOf.drew ?_) | (with_reducible refine SinceOf.drewN ?_ _) | (with_reducible refine SinceOf.later ?_ _) | (with_reducible refine SinceOf.further ?_ _) | (with_reducible refine SinceOf.setCell ?_ (by first | exact Nat.le_refl _ | (simp; done) | omega | (simp; omega)) _)))).trans hs6
              have HY := Lib.hid (And.intro hP6 (And.intro hO6 hsx6))
              clear hP6 hO6 hsx6 hs6 ho6
              go_wp2_with fail
              go_roundg (r.length - (n + 1))
              case measure => omega
              case rel => exact ⟨n + 1, OA, oc, Y, ⟨A6, c6, xs ++ [(bx, by')]⟩, hlt, Nat.le_refl _, rfl, by first | rfl | simp, by go_num, HZ.out.1, by omega, by simp; omega, HZ.out.2.1, HY.out.2.1, HY.out.1, HY.out.2.2⟩
          · have hos : optS o = g := by rw [hsome]; rfl
            rw [hos] at hv13
            have hdr : SF.drop j = SF[j] :: SF.drop (j + 1) := List.drop_eq_getElem_cons hjl
            obtain ⟨ga, gb, g0, gab, g1s, ggp, gge⟩ := (along_iff HF.out.2.2.2.2.1).1 hga
            have hSj : SF[j] = (ga, gb) := by rw [← hgp, ggp]
            rw [hdr, hSj, cutP] at hfin2
            have eA : g.1 = pointK ((ax, ay), (bx, by')).1 ((ax, ay), (bx, by')).2 ga := by rw [gge]
            have eB : g.2 = pointK ((ax, ay), (bx, by')).1 ((ax, ay), (bx, by')).2 gb := by rw [gge]
            rw [← eA, ← eB] at hfin2
            have hlo2 : ∀ i (h : i < SF.length), i < j + 1 → SF[i].1 < gb := fun i h hi => by
              by_cases e : i = j
              · subst e; rw [hSj]; exact gab
              · have h1 := List.pairwise_iff_getElem.1 HSF.out.2.2.1 i j h hjl (by omega)
                have h2 := (HSF.out.2.1 _ (List.getElem_mem h)).2.1
                rw [hSj] at h1
                simp only at h1
                omega
            have hhi2 : ∀ i (h : i < SF.length), j + 1 ≤ i → gb ≤ SF[i].1 := fun i h hi => by
              have h1 := List.pairwise_iff_getElem.1 HSF.out.2.2.1 j i hjl h (by omega)
              rw [hSj] at h1
              simp only at h1
              omega
            have NX := HNX.out gb (by omega) (Int.le_of_lt g1s)
            rw [← eB] at NX
            have d0 := hv13.v.c0
            have d1 := hv13.v.c1
            have d2 := hv13.v.c2
            have d3 := hv13.v.c3
            have f0 := hv12.f0
            have f1 := hv12.f1
            have s0 := hv12.c0
            have s1 := hv12.c1
            have HZ := Lib.hid (And.intro hfin2 (And.intro hYs (And.intro hO (And.intro hX (And.intro hXb (And.intro hv11 (And.intro hv12 (And.intro hv13 (And.intro hlo2 (And.intro hhi2 eB))))))))))
            subst hsome
            simp only [Option.isSome_some]
            obtain ⟨⟨gx, gy⟩, hx, hy⟩ := g
            obtain ⟨xA, xc, xs⟩ := x
            simp only at d0 d1 d2 d3 hx2 NX
            have hgb : 0 ≤ gb ∧ gb ≤ stepsK ((ax, ay), (bx, by')).1 ((ax, ay), (bx, by')).2 := ⟨by omega, Int.le_of_lt g1s⟩
            clear hfin2 hYs hO hX hXb hv11 hv12 hv13 hlo2 hhi2 hlo hhi ho hos hdr hSj eA eB gge ggp hgp hga
            go_wp2_with (first
              | (at_builtin; refine wpList_append_row rfl (.tmp 79) (.tmp 82) 22 rfl encV_len (by omega) encV_one i0 _ 16 Tryz.underlying22 HI.out.1 HI.out.2.1 HI.out.2.2.1 HI.out.2.2.2 rfl (l := xs) (A := xA) (c := xc) (base := x2.wd.heap.size) rfl (HZ.out.2.2.2.1.own.of (by (repeat (first | (with_reducible exact SinceOf.refl _) | (with_reducible assumption) | (with_reducible refine SinceOf.alloc ?_ _) | (with_reducible refine SinceOf.drew ?_) | (with_reducible refine SinceOf.drewN ?_ _) | (with_reducible refine SinceOf.later ?_ _) | (with_reducible refine SinceOf.further ?_ _) | (with_reducible refine SinceOf.setCell ?_ (by first | exact Nat.le_refl _ | (simp; done) | omega | (simp; omega)) _))))) (m := [(gx, gy)]) rfl (isRow_atV _ _ _ _ (by first | rfl | simp)) (by unfold maxLen; simp; omega) (by simp; omega) (by simp; omega) ?_; intro A6 c6 w6 ho6 hgr6 hb6)
              | (at_builtin; refine wpList_append_row rfl (.tmp 78) (.tmp 84) 46 rfl encG_len (by omega) encG_one i2 _ 24 Tryz.underlying46 HI2.out.1 HI2.out.2.1 HI2.out.2.2.1 HI2.out.2.2.2 rfl (l := Y) (A := OA) (c := oc) (base := x2.wd.heap.size) rfl ((path_grown (RowsAt.of HZ.out.2.2.1 (by (repeat (first | (with_reducible exact SinceOf.refl _) | (with_reducible assumption) | (with_reducible refine SinceOf.alloc ?_ _) | (with_reducible refine SinceOf.drew ?_) | (with_reducible refine SinceOf.drewN ?_ _) | (with_reducible refine SinceOf.later ?_ _) | (with_reducible refine SinceOf.further ?_ _) | (with_reducible refine SinceOf.setCell ?_ (by first | exact Nat.le_refl _ | (simp; done) | omega | (simp; omega)) _))) : SinceOf v.wd (v.wd.alloc (.cells #[.int .i64 gx, .int .i64 gy] 25)))) (HZ.out.2.2.2.1.of (by (repeat (first | (with_reducible exact SinceOf.refl _) | (with_reducible assumption) | (with_reducible refine SinceOf.alloc ?_ _) | (with_reducible refine SinceOf.drew ?_) | (with_reducible refine SinceOf.drewN ?_ _) | (with_reducible refine SinceOf.later ?_ _) | (with_reducible refine SinceOf.further ?_ _) | (with_reducible refine SinceOf.setCell ?_ (by first | exact Nat.le_refl _ | (simp; done) | omega | (simp; omega)) _))))) ho6 hgr6 hb6).1.own.of ((SinceOf.refl _).alloc _)) (m := [⟨A6, c6, xs ++ [(gx, gy)]⟩]) rfl (rowG_len _ _ _ A6 c6 _ _ (by first | rfl | simp) (by simp)) (by unfold maxLen; simp; omega) (by simp; omega) (by have := hgr6.size; simp at this ⊢; omega) ?_; intro A7 c7 w7 ho7 hgr7 hb7))
            have hpu := split_push HZ.out.2.2.1 HZ.out.2.2.2.1 HZ.out.2.2.2.2.1 HZ.out.2.2.2.2.2.1 HZ.out.2.2.2.2.2.2.1 HZ.out.2.2.2.2.2.2.2.1 (by (repeat (first | (with_reducible exact SinceOf.refl _) | (with_reducible assumption) | (with_reducible refine SinceOf.alloc ?_ _) | (with_reducible refine SinceOf.drew ?_) | (with_reducible refine SinceOf.drewN ?_ _) | (with_reducible refine SinceOf.later ?_ _) | (with_reducible refine SinceOf.further ?_ _) | (with_reducible refine SinceOf.setCell ?_ (by first | exact Nat.le_refl _ | (simp; done) | omega | (simp; omega)) _))) : SinceOf x2.wd v.wd) rfl ho6 hgr6 hb6 ho7 hgr7 hb7
            have HU := Lib.hid hpu
            have d0 := hpu.2.2.2.1.v.c0
            have d1 := hpu.2.2.2.1.v.c1
            have d2 := hpu.2.2.2.1.v.c2
            have d3 := hpu.2.2.2.1.v.c3
            have f0 := hpu.2.2.1.f0
            have f1 := hpu.2.2.1.f1
            have s0 := hpu.2.2.1.c0
            have s1 := hpu.2.2.1.c1
            have o11' : Nonempty (Old w7 b11) := ⟨⟨hpu.2.1.lt⟩⟩
            have o12' : Nonempty (Old w7 b12) := ⟨⟨hpu.2.2.1.lt⟩⟩
            have o13' : Nonempty (Old w7 b13) := ⟨⟨hpu.2.2.2.1.v.lt⟩⟩
            have l11 := hpu.2.1.lt
            have l12 := hpu.2.2.1.lt
            have l13 := hpu.2.2.2.1.v.lt
            have c0 := hpu.2.1.c0
            have c1 := hpu.2.1.c1
            have c2 := hpu.2.1.c2
            have c3 := hpu.2.1.c3
            simp only at d0 d1 d2 d3 c0 c1 c2 c3 s0 s1
            clear hpu ho6 hgr6 hb6 ho7 hgr7 hb7
            refine regionL [6] (S := (fun w' => w'.cell? ⟨b13, 2, none⟩ = some (.int .i64 hx) ∧ w'.cell? ⟨b13, 3, none⟩ = some (.int .i64 hy))) (by kernel_rfl) ?_ (fun hHeld0 => ?_)
            · simp [go_sem, *]
            refine takeL (i := 0) (d := some 86) (v := ?_) rfl rfl (by kernel_rfl) (by kernel_rfl) (by kernel_rfl) (by kernel_rfl) (by kernel_rfl) (fun _ _ _ h => h) (Or.inl ⟨by rfl, ?_⟩) (by assumption) ?_
            rotate_left 1
            · (intro w hSw; (try dsimp only at hSw); go_simp) <;> (with_reducible rfl)
            (try simp only [Act.put, List.setIfInBounds_toArray, List.set_cons_zero, List.set_cons_succ])
            refine takeL (i := 1) (d := some 87) (v := ?_) rfl rfl (by kernel_rfl) (by kernel_rfl) (by kernel_rfl) (by kernel_rfl) (by kernel_rfl) (fun _ _ _ h => h) (Or.inl ⟨by rfl, ?_⟩) (by assumption) ?_
            rotate_left 1
            · (intro w hSw; (try dsimp only at hSw); go_simp) <;> (with_reducible rfl)
            (try simp only [Act.put, List.setIfInBounds_toArray, List.set_cons_zero, List.set_cons_succ])
            refine takeL (i := 3) (d := some 89) (v := ?_) rfl rfl (by kernel_rfl) (by kernel_rfl) (by kernel_rfl) (by kernel_rfl) (by kernel_rfl) (fun _ _ _ h => h) (Or.inl ⟨by rfl, ?_⟩) (by assumption) ?_
            rotate_left 1
            · (intro w hSw; (try dsimp only at hSw); go_simp) <;> (with_reducible rfl)
            (try simp only [Act.put, List.setIfInBounds_toArray, List.set_cons_zero, List.set_cons_succ])
            refine takeL (i := 4) (d := some 90) (v := ?_) rfl rfl (by kernel_rfl) (by kernel_rfl) (by kernel_rfl) (by kernel_rfl) (by kernel_rfl) (fun _ _ _ h => h) (Or.inl ⟨by rfl, ?_⟩) (by assumption) ?_
            rotate_left 1
            · (intro w hSw; (try dsimp only at hSw); go_simp) <;> (with_reducible rfl)
            (try simp only [Act.put, List.setIfInBounds_toArray, List.set_cons_zero, List.set_cons_succ])
            refine stepL (i := 2) (by kernel_rfl) rfl (fun K' hK => ?_)
            go_simp
            refine hK.out _ _ ?_ (fun hHeld1 => ?_)
            · simp [go_sem, *]
            clear hK K' hHeld0
            refine takeL (i := 5) (d := some 9) (v := ?_) rfl rfl (by kernel_rfl) (by kernel_rfl) (by kernel_rfl) (by kernel_rfl) (by kernel_rfl) (fun _ _ _ h => h) (Or.inl ⟨by rfl, ?_⟩) (by assumption) ?_
            rotate_left 1
            · (intro w hSw; (try dsimp only at hSw); go_simp) <;> (with_reducible rfl)
            (try simp only [Act.put, List.setIfInBounds_toArray, List.set_cons_zero, List.set_cons_succ])
            refine lastL (i := 6) (by kernel_rfl) (by rfl) rfl (fun K' hK => ?_)
            go_simp
            refine hK.out _ _ ?_
            refine doneL (by kernel_rfl) ?_ _
            go_wp2_with fail
            obtain ⟨W8, hW8⟩ : ∃ W, W = (w7.setCell ⟨b12, 0, none⟩ (.int .i64 hx)).setCell ⟨b12, 1, none⟩ (.int .i64 hy) := ⟨_, rfl⟩
            rw [← hW8]
            have hz8 : W8.heap.size = w7.heap.size := by rw [hW8]; simp [World.setCell]
            have hvz8 : v.wd.heap.size ≤ w7.heap.size ∨ True := .inr trivial
            have hbase8 : x2.wd.heap.size ≤ W8.heap.size := by omega
            have hp8 : RowsAt 22 25 x2.wd.heap.size (fun b => b ≠ b11 ∧ b ≠ b12 ∧ b ≠ w7.heap.size + 1) W8 A7 c7 (Y ++ [⟨A6, c6, xs ++ [(gx, gy)]⟩]) := by
              rw [hW8]
              exact ((HU.out.1.mono (fun b _ hb hP => ⟨hP.1, hP.2.1, by omega⟩)).setNe (fun h => h.2.1 rfl)).setNe (fun h => h.2.1 rfl)
            have hp9 := path_new hp8 hx hy hbase8
            rw [hz8] at hp9
            have k11 : SegV W8 b11 ((ax, ay), (bx, by')) := by rw [hW8]; exact (HU.out.2.1.setNe n1).setNe n1
            have k12 : VarJ W8 b12 (hx, hy) := by rw [hW8]; exact HU.out.2.2.1.put hx hy
            have kS : SinceOf x2.wd W8 := by rw [hW8]; exact (HU.out.2.2.2.2.setCell m1 _).setCell m1 _
            obtain ⟨W9, hW9⟩ : ∃ W, W = (W8.alloc (.cells #[.int .i64 hx, .int .i64 hy] 25)).alloc (.cells #[.int .i64 gx, .int .i64 gy, .int .i64 hx, .int .i64 hy] 27) := ⟨_, rfl⟩
            rw [← hW9]
            have hz9 : W9.heap.size = w7.heap.size + 1 + 1 := by rw [hW9]; simp [hz8]
            have hs89 : SinceOf W8 W9 := by rw [hW9]; (repeat (first | (with_reducible exact SinceOf.refl _) | (with_reducible assumption) | (with_reducible refine SinceOf.alloc ?_ _) | (with_reducible refine SinceOf.drew ?_) | (with_reducible refine SinceOf.drewN ?_ _) | (with_reducible refine SinceOf.later ?_ _) | (with_reducible refine SinceOf.further ?_ _) | (with_reducible refine SinceOf.setCell ?_ (by first | exact Nat.le_refl _ | (simp; done) | omega | (simp; omega)) _)))
            have hs9a : SinceOf (W8.alloc (.cells #[.int .i64 hx, .int .i64 hy] 25)) W9 := by rw [hW9]; (repeat (first | (with_reducible exact SinceOf.refl _) | (with_reducible assumption) | (with_reducible refine SinceOf.alloc ?_ _) | (with_reducible refine SinceOf.drew ?_) | (with_reducible refine SinceOf.drewN ?_ _) | (with_reducible refine SinceOf.later ?_ _) | (with_reducible refine SinceOf.further ?_ _) | (with_reducible refine SinceOf.setCell ?_ (by first | exact Nat.le_refl _ | (simp; done) | omega | (simp; omega)) _)))
            have k13 : SegX W9 (w7.heap.size + 1) ((gx, gy), (hx, hy)) := by
              rw [hW9, ← hz8]
              exact ⟨⟨by simp, by simp, by simp, by simp, by simp⟩, fun j => by simp⟩
            have hg9 := And.intro (hp9.1.of hs9a) (And.intro (hp9.2.of hs9a) (And.intro (k11.of hs89) (And.intro (k12.of hs89) (And.intro k13 (kS.trans hs89)))))
            have HG := Lib.hid hg9
            clear hg9 hp8 hp9 k11 k12 k13 kS hs89 hs9a hW9 hbase8 hvz8 hW8 c0 c1 c2 c3 d0 d1 d2 d3 s0 s1 f0 f1 hHeld1
            obtain ⟨o2, ho2⟩ : ∃ o, o = bestK ((ax, ay), (bx, by')) gb G none := ⟨_, rfl⟩
            rw [← ho2] at NX
            obtain ⟨os2, hos2⟩ : ∃ os, os = optS o2 := ⟨_, rfl⟩
            rw [← hos2] at NX
            have HO2 := Lib.hid (And.intro ho2 hos2)
            clear ho2 hos2
            have hw9 : SinceOf w W9.drew := (H2.out.trans HG.out.2.2.2.2.2).drew
            refine (NX _ hw9).mono ?_
            rintro e _ ⟨rfl, hs10⟩
            obtain ⟨z3, rfl⟩ := hs10
            have hz3 := z3.size
            (try simp only [World.size_drew] at hz3)
            have hs10 : SinceOf W9 z3.wd := by (repeat (first | (with_reducible exact SinceOf.refl _) | (with_reducible assumption) | (with_reducible refine SinceOf.alloc ?_ _) | (with_reducible refine SinceOf.drew ?_) | (with_reducible refine SinceOf.drewN ?_ _) | (with_reducible refine SinceOf.later ?_ _) | (with_reducible refine SinceOf.further ?_ _) | (with_reducible refine SinceOf.setCell ?_ (by first | exact Nat.le_refl _ | (simp; done) | omega | (simp; omega)) _)))
            have q13 := HG.out.2.2.2.2.1.of hs10
            have HQ := Lib.hid (And.intro hs10 q13)
            have d0 := q13.v.c0
            have d1 := q13.v.c1
            have d2 := q13.v.c2
            have d3 := q13.v.c3
            have f0 := q13.f 0
            have f1 := q13.f 1
            have f2 := q13.f 2
            have f3 := q13.f 3
            simp only at d0 d1 d2 d3
            clear q13 hs10 hw9 NX
            obtain ⟨⟨k0, k1⟩, k2, k3⟩ := os2
            go_wp2_with fail
            go_roundg (SF.length - (j + 1))
            case measure => omega
            case rel =>
              have hs10 := HQ.out.1
              refine ⟨j + 1, gb, o2, A7, c7, Y ++ [⟨A6, c6, xs ++ [(gx, gy)]⟩], ⟨some ⟨w7.heap.size, 0, none⟩, 1, [(hx, hy)]⟩, w7.heap.size + 1, by omega, by omega, by simp, rfl, rfl, rfl, HO2.out.1, hgb, HZ.out.2.2.2.2.2.2.2.2.1, HZ.out.2.2.2.2.2.2.2.2.2.1, ?_, by simp; omega, by simp, ?_, (((((HG.out.1.of hs10).setNe (fun h => h.2.2 rfl)).setNe (fun h => h.2.2 rfl)).setNe (fun h => h.2.2 rfl)).setNe (fun h => h.2.2 rfl)), ((((HG.out.2.1.of hs10).setNe ?_).setNe ?_).setNe ?_).setNe ?_, ?_, (((((HG.out.2.2.1.of hs10).setNe ?_).setNe ?_).setNe ?_).setNe ?_), ?_, ?_, ?_, ?_, ?_⟩
              all_goals first | (simp [blockOf]; done) | (simp [blockOf]; omega) | omega | skip
              · have h9 := HZ.out.1
                simp only [] at h9 ⊢
                rw [← h9, vxs_append2]
                simp [vxs]
              · intro i hi
                by_cases e : i < Y.length
                · rw [List.getElem_append_left e]; exact HZ.out.2.1 i e
                · rw [List.length_append, List.length_singleton] at hi
                  obtain rfl : i = Y.length := by omega
                  simp
                  omega
              · rw [← HZ.out.2.2.2.2.2.2.2.2.2.2]
                exact ((((HG.out.2.2.2.1.of hs10).setNe (by omega)).setNe (by omega)).setNe (by omega)).setNe (by omega)
              · rw [← HO2.out.2]
                exact (HG.out.2.2.2.2.1.of hs10).put k0 k1 k2 k3
              · have hb8 : x2.wd.heap.size ≤ w7.heap.size + 1 := by omega
                exact ((((HG.out.2.2.2.2.2.trans hs10).setCell hb8 _).setCell hb8 _).setCell hb8 _).setCell hb8 _
    · obtain rfl : n = r.length := by omega
      rw [← HE.out.2.2.2.1, tourP_end] at hfin
      have hl1 : Y.length ≤ 480 := by omega
      obtain ⟨xA, xc, xs⟩ := x
      simp only at hxl hfin
      have HZ := Lib.hid (And.intro hfin (And.intro hYs (And.intro hO hX)))
      clear hfin hYs hO hX
      go_wp2_with (at_builtin; refine wpList_append_row rfl (.tmp 99) (.tmp 101) 46 rfl encG_len (by omega) encG_one i2 _ 24 Tryz.underlying46 HI2.out.1 HI2.out.2.1 HI2.out.2.2.1 HI2.out.2.2.2 rfl (l := Y) (A := OA) (c := oc) (base := x2.wd.heap.size) rfl (HZ.out.2.2.1.own.of (by (repeat (first | (with_reducible exact SinceOf.refl _) | (with_reducible assumption) | (with_reducible refine SinceOf.alloc ?_ _) | (with_reducible refine SinceOf.drew ?_) | (with_reducible refine SinceOf.drewN ?_ _) | (with_reducible refine SinceOf.later ?_ _) | (with_reducible refine SinceOf.further ?_ _) | (with_reducible refine SinceOf.setCell ?_ (by first | exact Nat.le_refl _ | (simp; done) | omega | (simp; omega)) _))))) (m := [⟨xA, xc, xs⟩]) rfl (rowG_atT _ _ _ ⟨xA, xc, xs⟩ (by first | rfl | simp)) (by unfold maxLen; simp; omega) (by simp; omega) (by simp; omega) ?_; intro A5 c5 w5 ho5 hgr5 hb5)
      have hpush := RowsAt.push (HZ.out.2.2.1.of (W' := z.wd.alloc (.cells #[.slice xA xs.length xc] 22)) (by (repeat (first | (with_reducible exact SinceOf.refl _) | (with_reducible assumption) | (with_reducible refine SinceOf.alloc ?_ _) | (with_reducible refine SinceOf.drew ?_) | (with_reducible refine SinceOf.drewN ?_ _) | (with_reducible refine SinceOf.later ?_ _) | (with_reducible refine SinceOf.further ?_ _) | (with_reducible refine SinceOf.setCell ?_ (by first | exact Nat.le_refl _ | (simp; done) | omega | (simp; omega)) _))))) (x := ⟨xA, xc, xs⟩) ((HZ.out.2.2.2.own).of (by (repeat (first | (with_reducible exact SinceOf.refl _) | (with_reducible assumption) | (with_reducible refine SinceOf.alloc ?_ _) | (with_reducible refine SinceOf.drew ?_) | (with_reducible refine SinceOf.drewN ?_ _) | (with_reducible refine SinceOf.later ?_ _) | (with_reducible refine SinceOf.further ?_ _) | (with_reducible refine SinceOf.setCell ?_ (by first | exact Nat.le_refl _ | (simp; done) | omega | (simp; omega)) _))))) HZ.out.2.2.2.tab HZ.out.2.2.2.rows (fun _ _ => trivial) ho5 hgr5 hb5 trivial
      have hs5 : SinceOf x2.wd w5 := SinceOf.grown (by (repeat (first | (with_reducible exact SinceOf.refl _) | (with_reducible assumption) | (with_reducible refine SinceOf.alloc ?_ _) | (with_reducible refine SinceOf.drew ?_) | (with_reducible refine SinceOf.drewN ?_ _) | (with_reducible refine SinceOf.later ?_ _) | (with_reducible refine SinceOf.further ?_ _) | (with_reducible refine SinceOf.setCell ?_ (by first | exact Nat.le_refl _ | (simp; done) | omega | (simp; omega)) _)))) hgr5 (fun b e => (HZ.out.2.2.1.own.below b e).1)
      have hR := hpush.rings (by simp; omega) (fun j hj => by
        by_cases e : j < Y.length
        · rw [List.getElem_append_left e]; have := HZ.out.2.1 j e; omega
        · rw [List.length_append, List.length_singleton] at hj
          obtain rfl : j = Y.length := by omega
          simp
          omega)
      have hvx : vxs (Y ++ [⟨xA, xc, xs⟩]) = PTH := by rw [← HZ.out.1, vxs_append2]; rfl
      have HY := Lib.hid (And.intro hvx (And.intro hR hs5))
      have hYl2 : (Y ++ [(⟨xA, xc, xs⟩ : RgR)]).length = Y.length + 1 := by simp
      have HL := Lib.hid hYl2
      clear hpush hs5 hR hvx ho5 hgr5 hb5 hYl2
      go_wp2_with fail
      go_returns
      exact ⟨H2.out.trans HY.out.2.2, A5, c5, Y ++ [⟨xA, xc, xs⟩], by first | (rw [HL.out]; rfl) | (rw [HL.out]; simp; done) | simp, HY.out.1, HY.out.2.1⟩
end Go.Proofs.YtkpnffokjpgalaaGreat
