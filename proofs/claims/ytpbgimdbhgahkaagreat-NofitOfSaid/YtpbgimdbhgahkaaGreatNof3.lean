/- Layer 16: the free intervals of a row. -/
import Derived.Test.YtpbgimdbhgahkaaGreatNof1
import Derived.Test.YtpbgimdbhgahkaaGreatMink14
import Derived.Test.YtpbgimdbhgahkaaGreatMinkN2
namespace Go.Proofs.YtpbgimdbhgahkaaGreat
open Go.RowKit Go.Sort
set_option linter.unusedVariables false
set_option linter.unusedSimpArgs false
attribute [local go_sem ↓] Go.wp_at_zero Go.wp_at_succ

theorem infoIv : (Tryz.prog.info? 61).map (fun i => (i.zero, i.size, i.bytes)) = some (some (.agg #[.int .i64 0, .int .i64 0]), 2, 16) := by kernel_rfl
abbrev OwnIvs (base : Nat) (w : World) (A : Option Addr) (c : Nat) (l : List (Int × Int)) : Prop := Owns encV 2 base 61 w A c l
theorem isRow_atI (W : World) (g : Nat) (x y : Int) (hg : W.heap.size = g) : IsVecs (W.alloc (.cells #[.int .i64 x, .int .i64 y] 61)) (some ⟨g, 0, none⟩) 1 [(x, y)] := by
  subst hg
  have h : OwnIvs W.heap.size (W.alloc (.cells #[.int .i64 x, .int .i64 y] 61)) (some ⟨W.heap.size, 0, none⟩) 1 [(x, y)] := World.ownsRow_lit W _ 1 (Nat.le_refl _) (by decide) rfl
  exact h.isRow encV_len
def cmp0 (p q : Int × Int) : Int := cmpi p.1 q.1
theorem ltOf_cmp0 (p q : Int × Int) : ltOf cmp0 p q = decide (p.1 < q.1) := by unfold ltOf cmp0 cmpi; split <;> (try split) <;> simp <;> omega
theorem swo0 : SWO (ltOf cmp0) where
  irrefl x := by rw [ltOf_cmp0]; simp
  trans x y z h1 h2 := by rw [ltOf_cmp0] at *; simp at *; omega
  ntrans x y z h1 h2 := by rw [ltOf_cmp0] at *; simp at *; omega
set_option maxRecDepth 100000 in
set_option maxHeartbeats 4000000 in
theorem free1_any (a b c d : Int) (w : World) : Gives Tryz.prog 85 #[vv a b, vv c d] w (.int .i64 (cmpi a c)) := by
  apply Gives.ret
  go_enter Tryz.func85, Tryz.ntmps85
  go_wp2_with fail
  refine (cmpCompare_any _ _ _).mono ?_
  rintro e w' ⟨rfl, rfl⟩
  go_wp2_with fail
  go_returns
  exact ⟨rfl, by (repeat (first | (with_reducible exact LaterOf.refl _) | (with_reducible refine LaterOf.alloc ?_ _) | (with_reducible refine LaterOf.drew ?_) | (with_reducible refine LaterOf.drewN ?_ _) | (with_reducible refine LaterOf.later ?_ _) | (with_reducible refine LaterOf.setCell ?_ (by first | exact Nat.le_refl _ | (simp; done) | omega | (simp; omega)) _)))⟩
theorem cmpLays0 (blk off size : Nat) (w : World) : CmpLays Tryz.prog 85 #[] encV 2 cmp0 blk off size w := by
  intro m os dk _ x y
  refine (free1_any x.1 x.2 y.1 y.2 _).calls.mono ?_
  rintro e _ ⟨rfl, z, rfl⟩
  exact ⟨rfl, grow_of_later z⟩
/-- SortFunc by the first numbers: a permutation in which these do not fall. -/
theorem sortIvs_any (g off c : Nat) (l : List (Int × Int)) (w : World) (hL : Live encV 2 w g off l) (hn : l.length < 4611686018427387904) :
    Calls Tryz.prog 84 #[.slice (some ⟨g, off, none⟩) l.length c, .func (.func 85) #[] #[]] w fun e w' => e = .returned (.tuple #[]) ∧ ∃ m, m.Perm l ∧ m.Pairwise (fun a b => a.1 ≤ b.1) ∧ Live encV 2 w' g off m ∧ w.grownBy w' (some g) := by
  have eg : ∀ args w, (callFunc 85 args).run Tryz.prog w = .ok (.enter 85 args) w := Go.Proofs.enters_of Tryz.func85 (by kernel_rfl) rfl
  have hg : g < w.heap.size := hL.row.there.elim fun h => h.lt
  have hcon := AnyQ.slices_SortFunc Tryz.sortIvs 2 Tryz.isAgg61 Tryz.sizeOf61 encV encV_len encV_one cmp0 swo0 85 #[] g off c l.toArray w eg (cmpLays0 g off l.toArray.size w) (hL.holds encV_len (by omega)) hg (by simpa using hn)
  change Calls Tryz.prog 84 _ _ _ at hcon
  simp only [List.size_toArray] at hcon
  refine hcon.mono ?_
  rintro e w' ⟨rfl, d', n, os, hp, hs, rfl⟩
  obtain ⟨hsz, -, hperm⟩ := hp
  have hsz' : d'.size = l.length := by simpa using hsz
  refine ⟨rfl, d'.toList, ?_, ?_, ?_, sortWorld_grown encV 2 w g off n _ os⟩
  · have h1 : d'.extract 0 l.length = d' := by rw [← hsz', Array.extract_size]
    have h2 : l.toArray.extract 0 l.length = l.toArray := by simp
    rw [h1, h2] at hperm
    exact hperm
  · rw [List.pairwise_iff_getElem]
    intro i j hi hj hij
    have := hs i j (Nat.zero_le _) hij (by simpa [hsz'] using hj)
    rw [ltOf_cmp0] at this
    have hi' : i < d'.size := by simpa using hi
    have hj' : j < d'.size := by simpa using hj
    simp only [getElem!_pos d' i hi', getElem!_pos d' j hj', decide_eq_false_iff_not] at this
    simp only [Array.getElem_toList]; omega
  · refine live_of_holds encV_len (by omega) ?_ ?_
    · have := (sortWorld_grown encV 2 w g off n d' os).size; exact Nat.lt_of_lt_of_le hg this
    · have h1 := holdsK_putRowK encV 2 (Sort.ahead w n) g off l.toArray d' (holdsK_ahead encV 2 w n g off _ (hL.holds encV_len (by omega))) (by simpa using hsz)
      have h2 := holdsK_grow encV 2 _ os g off d' (by simpa [putRowK, putRow, mapBlock, Sort.ahead] using hg) h1
      show HoldsK encV 2 _ g off d'.toList.toArray
      rw [Array.toArray_toList]
      exact h2
/-- The same for a row of one's own, the empty one too. -/
theorem sortOwn_any (base : Nat) (A : Option Addr) (c : Nat) (F : List (Int × Int)) (w : World) (h : OwnIvs base w A c F) (hn : F.length ≤ 100000) :
    Calls Tryz.prog 84 #[.slice A F.length c, .func (.func 85) #[] #[]] w fun e w' => e = .returned (.tuple #[]) ∧ ∃ m, m.Perm F ∧ m.Pairwise (fun a b => a.1 ≤ b.1) ∧ IsVecs w' A c m ∧ w.grownBy w' (blockOf A) := by
  by_cases h0 : F.length = 0
  · have hF : F = [] := List.length_eq_zero_iff.1 h0
    subst hF
    have := AnyF.slices_SortFunc_none Tryz.sortIvs A c (.func (.func 85) #[] #[]) w
    change Calls Tryz.prog 84 _ _ _ at this
    refine this.mono ?_
    rintro e w' ⟨rfl, rfl⟩
    exact ⟨rfl, [], List.Perm.refl _, List.Pairwise.nil, h.isRow encV_len, World.grownBy.refl _ _⟩
  · obtain ⟨g, rfl, hg, hL⟩ := Owns.live encV_len h (by omega)
    refine (sortIvs_any g 0 c F w hL (by omega)).mono ?_
    rintro e w' ⟨rfl, m, h1, h2, h3, h4⟩
    exact ⟨rfl, m, h1, h2, h3.isRow, h4⟩

def tailS (lo hi : Int) : List (Int × Int) := if lo ≤ hi then [(lo, hi)] else []
/-- What is left between lo and hi by intervals in order. -/
def freeS : List (Int × Int) → Int → Int → List (Int × Int)
  | [], lo, hi => tailS lo hi
  | f :: r, lo, hi => if hi < f.1 then tailS lo hi else if lo < f.1 then (lo, f.1 - 1) :: freeS r (imax lo (f.2 + 1)) hi else freeS r (imax lo (f.2 + 1)) hi
set_option maxRecDepth 100000 in
set_option maxHeartbeats 16000000 in
theorem free_any (w0 : World) (A : Option Addr) (c : Nat) (F : List (Int × Int)) (lo hi : Int) (w : World) (h0 : SinceOf w0 w) (hown : OwnIvs w0.heap.size w A c F) (hF : ∀ f ∈ F, -8000 ≤ f.1 ∧ f.1 ≤ 8000 ∧ -8000 ≤ f.2 ∧ f.2 ≤ 8000) (hn : F.length ≤ 100000) :
    Calls Tryz.prog 72 #[.slice A F.length c, .int .i64 lo, .int .i64 hi] w fun e w' => ∃ A' c' m, e = .returned (.slice A' (freeS m lo hi).length c') ∧ m.Perm F ∧ m.Pairwise (fun a b => a.1 ≤ b.1) ∧ OwnIvs w.heap.size w' A' c' (freeS m lo hi) ∧ SinceOf w0 w' := by
  have SO := sortOwn_any w0.heap.size A c F w hown hn
  have H := Lib.hid (And.intro h0 (And.intro (fun b hb => (hown.below b hb).1) hF))
  have h0s := h0.size
  obtain ⟨i0, hi, hz0, hz1, hz2⟩ := info_parts infoIv
  have HI := Lib.hid (And.intro hi (And.intro hz0 (And.intro hz1 hz2)))
  clear hi hz0 hz1 hz2 hown hF h0
  go_enter Tryz.func72, Tryz.ntmps72
  go_wp2_with fail
  go_at_call 84
  refine SO.mono ?_
  rintro e w1 ⟨rfl, M, hp, hs, hv, hg⟩
  have hml : M.length = F.length := hp.length_eq
  have hmn : M.length ≤ 100000 := by omega
  rw [← hml]
  clear hml
  have h01 : SinceOf w0 w1 := H.out.1.grown hg H.out.2.1
  have h1s := hg.size
  have HM := Lib.hid (And.intro hp (And.intro hs (And.intro h0s h01)))
  have HB := Lib.hid (And.intro hv (fun f hf => H.out.2.2 f (hp.mem_iff.1 hf)))
  clear SO hp hs hv hg h01
  go_wp2_with fail
  go_loopg [1, 7, 14] M.length (fun gas s1 s7 s14 wr => ∃ (k : Nat) (lo' : Int) (A7 : Option Addr) (c7 : Nat) (O : List (Int × Int)), k ≤ M.length ∧ M.length - k ≤ gas ∧ s1 = .int .i64 lo' ∧ s7 = .slice A7 O.length c7 ∧ s14 = .int .i64 k ∧ O.length ≤ k ∧ OwnIvs w1.heap.size wr A7 c7 O ∧ freeS M lo hi = O ++ freeS (M.drop k) lo' hi ∧ SinceOf w1 wr)
  case atStart => exact ⟨0, lo, none, 0, [], by omega, by omega, rfl, rfl, rfl, Nat.le_refl _, Owns.nil _ _ _ _ _, by rw [List.drop_zero]; rfl, by (repeat (first | (with_reducible exact SinceOf.refl _) | (with_reducible assumption) | (with_reducible refine SinceOf.alloc ?_ _) | (with_reducible refine SinceOf.drew ?_) | (with_reducible refine SinceOf.drewN ?_ _) | (with_reducible refine SinceOf.later ?_ _) | (with_reducible refine SinceOf.further ?_ _) | (with_reducible refine SinceOf.setCell ?_ (by first | exact Nat.le_refl _ | (simp; done) | omega | (simp; omega)) _)))⟩
  case round =>
    obtain ⟨k, lo', A7, c7, O, hk, hgas, rfl, rfl, rfl, hOk, ho, hfr, ⟨z, rfl⟩⟩ := hrel
    have hzs := z.size
    by_cases hlt : k < M.length
    · have hr0 := HB.out.1.of (w' := z.wd) (by (repeat (first | (with_reducible exact SinceOf.refl _) | (with_reducible assumption) | (with_reducible refine SinceOf.alloc ?_ _) | (with_reducible refine SinceOf.drew ?_) | (with_reducible refine SinceOf.drewN ?_ _) | (with_reducible refine SinceOf.later ?_ _) | (with_reducible refine SinceOf.further ?_ _) | (with_reducible refine SinceOf.setCell ?_ (by first | exact Nat.le_refl _ | (simp; done) | omega | (simp; omega)) _))))
      obtain ⟨g, off, rfl, hr⟩ := hr0.at_ (by omega)
      have hO := hr.there
      have k0 := hr.v0 k hlt
      have k1 := hr.v1 k hlt
      have hb := HB.out.2 _ (List.getElem_mem hlt)
      rw [List.drop_eq_getElem_cons hlt] at hfr
      generalize M[k] = f at *
      obtain ⟨fa, fb⟩ := f
      simp only at k0 k1 hb
      obtain ⟨b1, b2, b3, b4⟩ := hb
      clear hr hr0
      by_cases h1 : hi < fa
      · have g1 : decide (hi < fa) = true := decide_eq_true h1
        have HP := Lib.hid (And.intro ho (show freeS M lo hi = O ++ tailS lo' hi by rw [hfr]; unfold freeS; rw [if_pos h1]))
        clear ho hfr h1
        by_cases htl : lo' ≤ hi
        · have g3 : decide (lo' ≤ hi) = true := decide_eq_true htl
          have HT := Lib.hid (show tailS lo' hi = [(lo', hi)] by unfold tailS; rw [if_pos htl])
          clear htl
          go_wp2_with (at_builtin; refine wpList_append_row rfl (.tmp 43) (.tmp 47) 60 rfl encV_len (by omega) encV_one i0 _ 16 Tryz.underlying60 HI.out.1 HI.out.2.1 HI.out.2.2.1 HI.out.2.2.2 rfl (l := O) (A := A7) (c := c7) (base := w1.heap.size) rfl (HP.out.1.of (by (repeat (first | (with_reducible exact SinceOf.refl _) | (with_reducible assumption) | (with_reducible refine SinceOf.alloc ?_ _) | (with_reducible refine SinceOf.drew ?_) | (with_reducible refine SinceOf.drewN ?_ _) | (with_reducible refine SinceOf.later ?_ _) | (with_reducible refine SinceOf.further ?_ _) | (with_reducible refine SinceOf.setCell ?_ (by first | exact Nat.le_refl _ | (simp; done) | omega | (simp; omega)) _))))) (m := [(lo', hi)]) rfl (isRow_atI _ _ lo' hi (by first | rfl | simp)) (by unfold maxLen; simp; omega) (by simp; omega) (by simp; omega) ?_; intro A5 c5 w5 ho5 hgr5 hb5)
          go_returns
          exact ⟨A5, c5, M, by rw [HP.out.2, HT.out, List.length_append]; first | rfl | simp, HM.out.1, HM.out.2.1, by rw [HP.out.2, HT.out]; exact ho5.base_le h1s, SinceOf.trans HM.out.2.2.2 (SinceOf.grown (by (repeat (first | (with_reducible exact SinceOf.refl _) | (with_reducible assumption) | (with_reducible refine SinceOf.alloc ?_ _) | (with_reducible refine SinceOf.drew ?_) | (with_reducible refine SinceOf.drewN ?_ _) | (with_reducible refine SinceOf.later ?_ _) | (with_reducible refine SinceOf.further ?_ _) | (with_reducible refine SinceOf.setCell ?_ (by first | exact Nat.le_refl _ | (simp; done) | omega | (simp; omega)) _)))) hgr5 (fun q hq => (HP.out.1.below q hq).1))⟩
        · have g3 : decide (lo' ≤ hi) = false := decide_eq_false htl
          have HT := Lib.hid (show tailS lo' hi = [] by unfold tailS; rw [if_neg htl])
          clear htl
          go_wp2_with fail
          go_returns
          exact ⟨A7, c7, M, by rw [HP.out.2, HT.out, List.append_nil]; first | rfl | simp, HM.out.1, HM.out.2.1, by rw [HP.out.2, HT.out, List.append_nil]; exact (HP.out.1.of (by (repeat (first | (with_reducible exact SinceOf.refl _) | (with_reducible assumption) | (with_reducible refine SinceOf.alloc ?_ _) | (with_reducible refine SinceOf.drew ?_) | (with_reducible refine SinceOf.drewN ?_ _) | (with_reducible refine SinceOf.later ?_ _) | (with_reducible refine SinceOf.further ?_ _) | (with_reducible refine SinceOf.setCell ?_ (by first | exact Nat.le_refl _ | (simp; done) | omega | (simp; omega)) _))))).base_le h1s, SinceOf.trans HM.out.2.2.2 (by (repeat (first | (with_reducible exact SinceOf.refl _) | (with_reducible assumption) | (with_reducible refine SinceOf.alloc ?_ _) | (with_reducible refine SinceOf.drew ?_) | (with_reducible refine SinceOf.drewN ?_ _) | (with_reducible refine SinceOf.later ?_ _) | (with_reducible refine SinceOf.further ?_ _) | (with_reducible refine SinceOf.setCell ?_ (by first | exact Nat.le_refl _ | (simp; done) | omega | (simp; omega)) _))))⟩
      · have g1 : decide (hi < fa) = false := decide_eq_false h1
        by_cases h2 : lo' < fa
        · have g2 : decide (lo' < fa) = true := decide_eq_true h2
          have HP := Lib.hid (And.intro ho (show freeS M lo hi = (O ++ [(lo', fa - 1)]) ++ freeS (M.drop (k + 1)) (imax lo' (fb + 1)) hi by rw [hfr, freeS, if_neg h1, if_pos h2, List.append_assoc]; rfl))
          have hneu : some z.wd.heap.size ≠ blockOf A7 := fun e => by have := (HP.out.1.below _ e.symm).2; omega
          clear ho hfr h1 h2
          go_wp2_with (at_builtin; refine wpList_append_row rfl (.tmp 26) (.tmp 32) 60 rfl encV_len (by omega) encV_one i0 _ 16 Tryz.underlying60 HI.out.1 HI.out.2.1 HI.out.2.2.1 HI.out.2.2.2 rfl (l := O) (A := A7) (c := c7) (base := w1.heap.size) rfl (HP.out.1.of (by (repeat (first | (with_reducible exact SinceOf.refl _) | (with_reducible assumption) | (with_reducible refine SinceOf.alloc ?_ _) | (with_reducible refine SinceOf.drew ?_) | (with_reducible refine SinceOf.drewN ?_ _) | (with_reducible refine SinceOf.later ?_ _) | (with_reducible refine SinceOf.further ?_ _) | (with_reducible refine SinceOf.setCell ?_ (by first | exact Nat.le_refl _ | (simp; done) | omega | (simp; omega)) _))))) (m := [(lo', fa - 1)]) rfl (isRow_atI _ _ lo' (fa - 1) (by first | rfl | simp)) (by unfold maxLen; simp; omega) (by simp; omega) (by simp; omega) ?_; intro A5 c5 w5 ho5 hgr5 hb5; have vq : VarV w5 z.wd.heap.size (fa, fb) := ((VarV.new z.wd fa fb 61).of (W' := (z.wd.alloc (.cells #[.int .i64 fa, .int .i64 fb] 61)).alloc (.cells #[.int .i64 lo', .int .i64 (fa - 1)] 61)) (by (repeat (first | (with_reducible exact SinceOf.refl _) | (with_reducible assumption) | (with_reducible refine SinceOf.alloc ?_ _) | (with_reducible refine SinceOf.drew ?_) | (with_reducible refine SinceOf.drewN ?_ _) | (with_reducible refine SinceOf.later ?_ _) | (with_reducible refine SinceOf.further ?_ _) | (with_reducible refine SinceOf.setCell ?_ (by first | exact Nat.le_refl _ | (simp; done) | omega | (simp; omega)) _))))).keptG hgr5 hneu; have q0 := vq.c0; have q1 := vq.c1; have hO5 : Nonempty (Old w5 z.wd.heap.size) := ⟨⟨vq.lt⟩⟩; simp only at q0 q1)
          go_roundg (M.length - (k + 1))
          case measure => omega
          case rel => exact ⟨k + 1, imax lo' (fb + 1), A5, c5, O ++ [(lo', fa - 1)], hlt, Nat.le_refl _, by first | rfl | simp, by first | rfl | simp, by go_num, by simp; omega, ho5, HP.out.2, SinceOf.grown (by (repeat (first | (with_reducible exact SinceOf.refl _) | (with_reducible assumption) | (with_reducible refine SinceOf.alloc ?_ _) | (with_reducible refine SinceOf.drew ?_) | (with_reducible refine SinceOf.drewN ?_ _) | (with_reducible refine SinceOf.later ?_ _) | (with_reducible refine SinceOf.further ?_ _) | (with_reducible refine SinceOf.setCell ?_ (by first | exact Nat.le_refl _ | (simp; done) | omega | (simp; omega)) _)))) hgr5 (fun q hq => (HP.out.1.below q hq).1)⟩
        · have g2 : decide (lo' < fa) = false := decide_eq_false h2
          have HP := Lib.hid (And.intro ho (show freeS M lo hi = O ++ freeS (M.drop (k + 1)) (imax lo' (fb + 1)) hi by rw [hfr, freeS, if_neg h1, if_neg h2]))
          clear ho hfr h1 h2
          go_wp2_with fail
          go_roundg (M.length - (k + 1))
          case measure => omega
          case rel => exact ⟨k + 1, imax lo' (fb + 1), A7, c7, O, hlt, Nat.le_refl _, by first | rfl | simp, rfl, by go_num, by omega, HP.out.1.of (by (repeat (first | (with_reducible exact SinceOf.refl _) | (with_reducible assumption) | (with_reducible refine SinceOf.alloc ?_ _) | (with_reducible refine SinceOf.drew ?_) | (with_reducible refine SinceOf.drewN ?_ _) | (with_reducible refine SinceOf.later ?_ _) | (with_reducible refine SinceOf.further ?_ _) | (with_reducible refine SinceOf.setCell ?_ (by first | exact Nat.le_refl _ | (simp; done) | omega | (simp; omega)) _)))), HP.out.2, by (repeat (first | (with_reducible exact SinceOf.refl _) | (with_reducible assumption) | (with_reducible refine SinceOf.alloc ?_ _) | (with_reducible refine SinceOf.drew ?_) | (with_reducible refine SinceOf.drewN ?_ _) | (with_reducible refine SinceOf.later ?_ _) | (with_reducible refine SinceOf.further ?_ _) | (with_reducible refine SinceOf.setCell ?_ (by first | exact Nat.le_refl _ | (simp; done) | omega | (simp; omega)) _)))⟩
    · obtain rfl : k = M.length := by omega
      rw [List.drop_length] at hfr
      have HP := Lib.hid (And.intro ho (show freeS M lo hi = O ++ tailS lo' hi from hfr))
      clear ho hfr
      by_cases htl : lo' ≤ hi
      · have g3 : decide (lo' ≤ hi) = true := decide_eq_true htl
        have HT := Lib.hid (show tailS lo' hi = [(lo', hi)] by unfold tailS; rw [if_pos htl])
        clear htl
        go_wp2_with (at_builtin; refine wpList_append_row rfl (.tmp 43) (.tmp 47) 60 rfl encV_len (by omega) encV_one i0 _ 16 Tryz.underlying60 HI.out.1 HI.out.2.1 HI.out.2.2.1 HI.out.2.2.2 rfl (l := O) (A := A7) (c := c7) (base := w1.heap.size) rfl (HP.out.1.of (by (repeat (first | (with_reducible exact SinceOf.refl _) | (with_reducible assumption) | (with_reducible refine SinceOf.alloc ?_ _) | (with_reducible refine SinceOf.drew ?_) | (with_reducible refine SinceOf.drewN ?_ _) | (with_reducible refine SinceOf.later ?_ _) | (with_reducible refine SinceOf.further ?_ _) | (with_reducible refine SinceOf.setCell ?_ (by first | exact Nat.le_refl _ | (simp; done) | omega | (simp; omega)) _))))) (m := [(lo', hi)]) rfl (isRow_atI _ _ lo' hi (by first | rfl | simp)) (by unfold maxLen; simp; omega) (by simp; omega) (by simp; omega) ?_; intro A5 c5 w5 ho5 hgr5 hb5)
        go_returns
        exact ⟨A5, c5, M, by rw [HP.out.2, HT.out, List.length_append]; first | rfl | simp, HM.out.1, HM.out.2.1, by rw [HP.out.2, HT.out]; exact ho5.base_le h1s, SinceOf.trans HM.out.2.2.2 (SinceOf.grown (by (repeat (first | (with_reducible exact SinceOf.refl _) | (with_reducible assumption) | (with_reducible refine SinceOf.alloc ?_ _) | (with_reducible refine SinceOf.drew ?_) | (with_reducible refine SinceOf.drewN ?_ _) | (with_reducible refine SinceOf.later ?_ _) | (with_reducible refine SinceOf.further ?_ _) | (with_reducible refine SinceOf.setCell ?_ (by first | exact Nat.le_refl _ | (simp; done) | omega | (simp; omega)) _)))) hgr5 (fun q hq => (HP.out.1.below q hq).1))⟩
      · have g3 : decide (lo' ≤ hi) = false := decide_eq_false htl
        have HT := Lib.hid (show tailS lo' hi = [] by unfold tailS; rw [if_neg htl])
        clear htl
        go_wp2_with fail
        go_returns
        exact ⟨A7, c7, M, by rw [HP.out.2, HT.out, List.append_nil]; first | rfl | simp, HM.out.1, HM.out.2.1, by rw [HP.out.2, HT.out, List.append_nil]; exact (HP.out.1.of (by (repeat (first | (with_reducible exact SinceOf.refl _) | (with_reducible assumption) | (with_reducible refine SinceOf.alloc ?_ _) | (with_reducible refine SinceOf.drew ?_) | (with_reducible refine SinceOf.drewN ?_ _) | (with_reducible refine SinceOf.later ?_ _) | (with_reducible refine SinceOf.further ?_ _) | (with_reducible refine SinceOf.setCell ?_ (by first | exact Nat.le_refl _ | (simp; done) | omega | (simp; omega)) _))))).base_le h1s, SinceOf.trans HM.out.2.2.2 (by (repeat (first | (with_reducible exact SinceOf.refl _) | (with_reducible assumption) | (with_reducible refine SinceOf.alloc ?_ _) | (with_reducible refine SinceOf.drew ?_) | (with_reducible refine SinceOf.drewN ?_ _) | (with_reducible refine SinceOf.later ?_ _) | (with_reducible refine SinceOf.further ?_ _) | (with_reducible refine SinceOf.setCell ?_ (by first | exact Nat.le_refl _ | (simp; done) | omega | (simp; omega)) _))))⟩
end Go.Proofs.YtpbgimdbhgahkaaGreat
/- Layer 16 (plain): free intervals are the greatest ones. -/
namespace Go.Proofs.YtpbgimdbhgahkaaGreat
open Go.RowKit Go.Sort
set_option linter.unusedVariables false
set_option linter.unusedSimpArgs false

/-- Intervals in order, none empty, no two that touch. -/
def CanonI : List (Int × Int) → Prop
  | [] => True
  | f :: r => f.1 ≤ f.2 ∧ (∀ g ∈ r, f.2 + 1 < g.1) ∧ CanonI r
def MemI (x : Int) (l : List (Int × Int)) : Prop := ∃ f ∈ l, f.1 ≤ x ∧ x ≤ f.2
theorem memI_cons {x : Int} {f : Int × Int} {r : List (Int × Int)} : MemI x (f :: r) ↔ (f.1 ≤ x ∧ x ≤ f.2) ∨ MemI x r := by
  unfold MemI; simp
theorem memI_nil {x : Int} : ¬ MemI x [] := by unfold MemI; simp
theorem CanonI.le : ∀ {l : List (Int × Int)}, CanonI l → ∀ f ∈ l, f.1 ≤ f.2
  | _ :: _, h, f, hf => by
    rcases List.mem_cons.1 hf with rfl | q
    · exact h.1
    · exact CanonI.le h.2.2 f q
theorem canonI_unique : ∀ {l m : List (Int × Int)}, CanonI l → CanonI m → (∀ x, MemI x l ↔ MemI x m) → l = m
  | [], [], _, _, _ => rfl
  | [], g :: m, _, hm, h => absurd ((h g.1).2 (memI_cons.2 (.inl ⟨Int.le_refl _, hm.1⟩))) memI_nil
  | f :: l, [], hl, _, h => absurd ((h f.1).1 (memI_cons.2 (.inl ⟨Int.le_refl _, hl.1⟩))) memI_nil
  | f :: l, g :: m, hl, hm, h => by
    -- beginnings and ends of the first ones agree
    have key : ∀ {f g : Int × Int} {l m : List (Int × Int)}, CanonI (f :: l) → CanonI (g :: m) → (∀ x, MemI x (f :: l) ↔ MemI x (g :: m)) → g.1 ≤ f.1 := fun {f g l m} hl hm h => by
      have := (h f.1).1 (memI_cons.2 (.inl ⟨Int.le_refl _, hl.1⟩))
      rcases memI_cons.1 this with q | ⟨k, hk, q⟩
      · exact q.1
      · have a := hm.2.1 k hk
        have b := hm.1
        omega
    have e1 : f.1 = g.1 := by
      have a := key hl hm h
      have b := key hm hl (fun x => (h x).symm)
      omega
    have key2 : ∀ {f g : Int × Int} {l m : List (Int × Int)}, CanonI (f :: l) → CanonI (g :: m) → f.1 = g.1 → (∀ x, MemI x (f :: l) ↔ MemI x (g :: m)) → f.2 ≤ g.2 := fun {f g l m} hl hm e h => by
      rcases Int.lt_or_le g.2 f.2 with q | q
      · exfalso
        have b := hm.1
        have := (h (g.2 + 1)).1 (memI_cons.2 (.inl ⟨by omega, by omega⟩))
        rcases memI_cons.1 this with c | ⟨k, hk, c⟩
        · omega
        · have a := hm.2.1 k hk
          omega
      · exact q
    have e2 : f.2 = g.2 := by
      have a := key2 hl hm e1 h
      have b := key2 hm hl e1.symm (fun x => (h x).symm)
      omega
    have e : f = g := Prod.ext e1 e2
    subst e
    congr 1
    refine canonI_unique hl.2.2 hm.2.2 fun x => ?_
    have hx := h x
    rw [memI_cons, memI_cons] at hx
    constructor
    · intro q
      rcases hx.1 (.inr q) with c | c
      · obtain ⟨k, hk, d⟩ := q
        have := hl.2.1 k hk
        omega
      · exact c
    · intro q
      rcases hx.2 (.inr q) with c | c
      · obtain ⟨k, hk, d⟩ := q
        have := hm.2.1 k hk
        omega
      · exact c
theorem imax_eq' (a b : Int) : imax a b = max a b := by unfold imax; split <;> omega
theorem freeS_spec : ∀ (m : List (Int × Int)) (lo hi : Int), m.Pairwise (fun a b => a.1 ≤ b.1) → (∀ f ∈ m, f.1 ≤ f.2) →
    CanonI (freeS m lo hi) ∧ (∀ g ∈ freeS m lo hi, lo ≤ g.1) ∧ ∀ x, MemI x (freeS m lo hi) ↔ (lo ≤ x ∧ x ≤ hi ∧ ¬ MemI x m) := by
  have T : ∀ lo hi : Int, CanonI (tailS lo hi) ∧ (∀ g ∈ tailS lo hi, lo ≤ g.1) ∧ ∀ x, MemI x (tailS lo hi) ↔ (lo ≤ x ∧ x ≤ hi) := fun lo hi => by
    unfold tailS
    by_cases h : lo ≤ hi
    · rw [if_pos h]
      exact ⟨⟨h, (fun g hg => by cases hg), trivial⟩, fun g hg => by rw [List.mem_singleton] at hg; rw [hg]; exact Int.le_refl _, fun x => by unfold MemI; simp⟩
    · rw [if_neg h]
      exact ⟨trivial, (fun g hg => by cases hg), fun x => ⟨fun q => absurd q memI_nil, fun q => by omega⟩⟩
  intro m
  induction m with
  | nil =>
    intro lo hi _ _
    obtain ⟨a, b, c⟩ := T lo hi
    exact ⟨a, b, fun x => (c x).trans ⟨fun q => ⟨q.1, q.2, memI_nil⟩, fun q => ⟨q.1, q.2.1⟩⟩⟩
  | cons f r ih =>
    intro lo hi hs hle
    rw [List.pairwise_cons] at hs
    have hf := hle f (List.mem_cons_self ..)
    have hr : ∀ g ∈ r, g.1 ≤ g.2 := fun g hg => hle g (List.mem_cons_of_mem _ hg)
    unfold freeS
    by_cases h1 : hi < f.1
    · rw [if_pos h1]
      obtain ⟨a, b, c⟩ := T lo hi
      refine ⟨a, b, fun x => (c x).trans ⟨fun q => ⟨q.1, q.2, fun k => ?_⟩, fun q => ⟨q.1, q.2.1⟩⟩⟩
      rcases memI_cons.1 k with k | ⟨g, hg, k⟩
      · omega
      · have := hs.1 g hg; omega
    · rw [if_neg h1]
      obtain ⟨a, b, c⟩ := ih (imax lo (f.2 + 1)) hi hs.2 hr
      rw [imax_eq'] at *
      have cov : ∀ x, x < f.1 → ¬ MemI x r := fun x hx ⟨g, hg, k⟩ => by have := hs.1 g hg; omega
      by_cases h2 : lo < f.1
      · rw [if_pos h2]
        refine ⟨⟨by show lo ≤ f.1 - 1; omega, fun g hg => by have := b g hg; show f.1 - 1 + 1 < g.1; omega, a⟩, fun g hg => ?_, fun x => ?_⟩
        · rcases List.mem_cons.1 hg with rfl | hg
          · exact Int.le_refl _
          · have := b g hg; omega
        · rw [memI_cons, memI_cons, c x]
          simp only
          constructor
          · rintro (q | ⟨q1, q2, q3⟩)
            · exact ⟨q.1, by omega, fun k => by
                rcases k with k | k
                · omega
                · exact cov x (by omega) k⟩
            · exact ⟨by omega, q2, fun k => by
                rcases k with k | k
                · omega
                · exact q3 k⟩
          · rintro ⟨q1, q2, q3⟩
            by_cases q4 : x < f.1
            · exact .inl ⟨q1, by omega⟩
            · refine .inr ⟨?_, q2, fun k => q3 (.inr k)⟩
              have : ¬ (f.1 ≤ x ∧ x ≤ f.2) := fun k => q3 (.inl k)
              omega
      · rw [if_neg h2]
        refine ⟨a, fun g hg => by have := b g hg; omega, fun x => ?_⟩
        rw [memI_cons, c x]
        constructor
        · rintro ⟨q1, q2, q3⟩
          exact ⟨by omega, q2, fun k => by
            rcases k with k | k
            · omega
            · exact q3 k⟩
        · rintro ⟨q1, q2, q3⟩
          have : ¬ (f.1 ≤ x ∧ x ≤ f.2) := fun k => q3 (.inl k)
          exact ⟨by omega, q2, fun k => q3 (.inr k)⟩

/-- The forbidden intervals of a row. -/
def forbF (S : List (List Pt)) (y : Int) : List (Int × Int) := S.filterMap (fun r => if (rowM r y).2.2 then some ((rowM r y).1, (rowM r y).2.1) else none)
theorem rowM_le {r : List Pt} {y : Int} (h : (rowM r y).2.2 = true) : (rowM r y).1 ≤ (rowM r y).2.1 := by
  unfold rowM at h ⊢
  split at h
  · rename_i q; rw [if_pos q]; exact q.2
  · cases h
theorem rowM_near {r : List Pt} {y : Int} (h : (rowM r y).2.2 = true) : -8000 ≤ (rowM r y).1 ∧ (rowM r y).1 ≤ 8000 ∧ -8000 ≤ (rowM r y).2.1 ∧ (rowM r y).2.1 ≤ 8000 := by
  have hle := rowM_le h
  have a := (where_row r (rowM r y).1 y).2 ⟨h, Int.le_refl _, hle⟩
  have b := (where_row r (rowM r y).2.1 y).2 ⟨h, hle, Int.le_refl _⟩
  have na := (where_in (r := r) (p := ((rowM r y).1, y)) (by rw [a]; decide)).2.1
  have nb := (where_in (r := r) (p := ((rowM r y).2.1, y)) (by rw [b]; decide)).2.1
  unfold near at na nb
  simp only at na nb
  omega
theorem mem_forbF {S : List (List Pt)} {y : Int} {f : Int × Int} : f ∈ forbF S y ↔ ∃ r ∈ S, (rowM r y).2.2 = true ∧ f = ((rowM r y).1, (rowM r y).2.1) := by
  unfold forbF
  rw [List.mem_filterMap]
  constructor
  · rintro ⟨r, hr, h⟩
    refine ⟨r, hr, ?_⟩
    split at h
    · rename_i q; exact ⟨q, by injection h with h; exact h.symm⟩
    · cases h
  · rintro ⟨r, hr, h, rfl⟩
    exact ⟨r, hr, by rw [if_pos h]⟩
theorem forbF_le {S : List (List Pt)} {y : Int} : ∀ f ∈ forbF S y, f.1 ≤ f.2 ∧ (-8000 ≤ f.1 ∧ f.1 ≤ 8000 ∧ -8000 ≤ f.2 ∧ f.2 ≤ 8000) := fun f hf => by
  obtain ⟨r, _, h, rfl⟩ := mem_forbF.1 hf
  exact ⟨rowM_le h, rowM_near h⟩
theorem forb_row {S : List (List Pt)} {x y : Int} : forbB S (x, y) = true ↔ MemI x (forbF S y) := by
  unfold forbB MemI
  rw [List.any_eq_true]
  constructor
  · rintro ⟨r, hr, h⟩
    have := (where_row r x y).1 (by simpa using h)
    exact ⟨_, mem_forbF.2 ⟨r, hr, this.1, rfl⟩, this.2.1, this.2.2⟩
  · rintro ⟨f, hf, h1, h2⟩
    obtain ⟨r, hr, h, rfl⟩ := mem_forbF.1 hf
    exact ⟨r, hr, by simpa using (where_row r x y).2 ⟨h, h1, h2⟩⟩
/-- What Row gives: the greatest permitted intervals. -/
def RowV (S : List (List Pt)) (y lo hi : Int) (out : List (Int × Int)) : Prop := CanonI out ∧ ∀ x, MemI x out ↔ (-8000 ≤ y ∧ y ≤ 8000 ∧ max lo (-8000) ≤ x ∧ x ≤ min hi 8000 ∧ forbB S (x, y) = false)
theorem RowV.unique {S : List (List Pt)} {y lo hi : Int} {a b : List (Int × Int)} (h : RowV S y lo hi a) (k : RowV S y lo hi b) : a = b := canonI_unique h.1 k.1 (fun x => (h.2 x).trans (k.2 x).symm)
theorem RowV.none {S : List (List Pt)} {y lo hi : Int} (h : y < -8000 ∨ 8000 < y) : RowV S y lo hi [] := ⟨trivial, fun x => ⟨fun q => absurd q memI_nil, fun q => by omega⟩⟩
theorem RowV.free {S : List (List Pt)} {y lo hi : Int} {m : List (Int × Int)} (h1 : -8000 ≤ y) (h2 : y ≤ 8000) (hp : m.Perm (forbF S y)) (hs : m.Pairwise (fun a b => a.1 ≤ b.1)) : RowV S y lo hi (freeS m (max lo (-8000)) (min hi 8000)) := by
  obtain ⟨a, _, c⟩ := freeS_spec m (max lo (-8000)) (min hi 8000) hs (fun f hf => (forbF_le f (hp.mem_iff.1 hf)).1)
  refine ⟨a, fun x => (c x).trans ?_⟩
  have e : MemI x m ↔ forbB S (x, y) = true := by
    rw [forb_row]
    unfold MemI
    exact ⟨fun ⟨f, hf, q⟩ => ⟨f, hp.mem_iff.1 hf, q⟩, fun ⟨f, hf, q⟩ => ⟨f, hp.mem_iff.2 hf, q⟩⟩
  rw [e]
  cases forbB S (x, y) <;> simp <;> omega
end Go.Proofs.YtpbgimdbhgahkaaGreat
/- Layer 16: Row of the program and of the reference. -/
namespace Go.Proofs.YtpbgimdbhgahkaaGreat
open Go.RowKit Go.Sort
set_option linter.unusedVariables false
set_option linter.unusedSimpArgs false
attribute [local go_sem ↓] Go.wp_at_zero Go.wp_at_succ

theorem forbF_snoc {S : List (List Pt)} {y : Int} {k : Nat} (h : k < S.length) : forbF (S.take (k + 1)) y = forbF (S.take k) y ++ (if (rowM S[k] y).2.2 then [((rowM S[k] y).1, (rowM S[k] y).2.1)] else []) := by
  unfold forbF
  rw [List.take_succ_eq_append_getElem h, List.filterMap_append]
  congr 1
  by_cases h2 : (rowM S[k] y).2.2 = true
  · simp [h2]
  · simp [h2]
theorem forbF_len (S : List (List Pt)) (y : Int) : (forbF S y).length ≤ S.length := List.length_filterMap_le _ _
set_option maxRecDepth 100000 in
set_option maxHeartbeats 16000000 in
theorem nofRow_any (A : Option Addr) (c : Nat) (X : List RgR) (y lo hi : Int) (w : World) (h : IsRings w A c X) (hs : ∀ x ∈ X, x.xs.length ≤ 100000) (hX : X.length ≤ 10000) :
    Calls Tryz.prog 49 #[.slice A X.length c, .int .i64 y, .int .i64 lo, .int .i64 hi] w fun e w' => ∃ A' c' out, e = .returned (.slice A' out.length c') ∧ RowV (vxs X) y lo hi out ∧ OwnIvs w.heap.size w' A' c' out ∧ SinceOf w w' := by
  have H := Lib.hid (And.intro h hs)
  clear h hs
  obtain ⟨i0, hi', hz0, hz1, hz2⟩ := info_parts infoIv
  have HI := Lib.hid (And.intro hi' (And.intro hz0 (And.intro hz1 hz2)))
  clear hi' hz0 hz1 hz2
  by_cases y1 : y < -8000
  · have g1 : decide (y < -8000) = true := decide_eq_true y1
    have HV := Lib.hid (RowV.none (S := vxs X) (lo := lo) (hi := hi) (.inl y1))
    clear y1
    go_enter Tryz.func49, Tryz.ntmps49
    go_wp2_with fail
    go_returns
    exact ⟨none, 0, [], rfl, HV.out, Owns.nil _ _ _ _ _, by (repeat (first | (with_reducible exact SinceOf.refl _) | (with_reducible assumption) | (with_reducible refine SinceOf.alloc ?_ _) | (with_reducible refine SinceOf.drew ?_) | (with_reducible refine SinceOf.drewN ?_ _) | (with_reducible refine SinceOf.later ?_ _) | (with_reducible refine SinceOf.further ?_ _) | (with_reducible refine SinceOf.setCell ?_ (by first | exact Nat.le_refl _ | (simp; done) | omega | (simp; omega)) _)))⟩
  have g1 : decide (y < -8000) = false := decide_eq_false y1
  by_cases y2 : 8000 < y
  · have g2 : decide (8000 < y) = true := decide_eq_true y2
    have HV := Lib.hid (RowV.none (S := vxs X) (lo := lo) (hi := hi) (.inr y2))
    clear y1 y2
    go_enter Tryz.func49, Tryz.ntmps49
    go_wp2_with fail
    go_returns
    exact ⟨none, 0, [], rfl, HV.out, Owns.nil _ _ _ _ _, by (repeat (first | (with_reducible exact SinceOf.refl _) | (with_reducible assumption) | (with_reducible refine SinceOf.alloc ?_ _) | (with_reducible refine SinceOf.drew ?_) | (with_reducible refine SinceOf.drewN ?_ _) | (with_reducible refine SinceOf.later ?_ _) | (with_reducible refine SinceOf.further ?_ _) | (with_reducible refine SinceOf.setCell ?_ (by first | exact Nat.le_refl _ | (simp; done) | omega | (simp; omega)) _)))⟩
  have g2 : decide (8000 < y) = false := decide_eq_false y2
  have HY := Lib.hid (And.intro (show -8000 ≤ y by omega) (show y ≤ 8000 by omega))
  clear y1 y2
  go_enter Tryz.func49, Tryz.ntmps49
  go_wp2_with fail
  clear g1 g2
  go_loopg [9, 23] X.length (fun gas s9 s23 wr => ∃ (k : Nat) (A9 : Option Addr) (c9 : Nat), k ≤ X.length ∧ X.length - k ≤ gas ∧ s9 = .slice A9 (forbF ((vxs X).take k) y).length c9 ∧ s23 = .int .i64 k ∧ OwnIvs w.heap.size wr A9 c9 (forbF ((vxs X).take k) y) ∧ SinceOf w wr)
  case atStart => exact ⟨0, none, 0, by omega, by omega, by rw [List.take_zero]; rfl, rfl, by rw [List.take_zero]; exact Owns.nil _ _ _ _ _, by (repeat (first | (with_reducible exact SinceOf.refl _) | (with_reducible assumption) | (with_reducible refine SinceOf.alloc ?_ _) | (with_reducible refine SinceOf.drew ?_) | (with_reducible refine SinceOf.drewN ?_ _) | (with_reducible refine SinceOf.later ?_ _) | (with_reducible refine SinceOf.further ?_ _) | (with_reducible refine SinceOf.setCell ?_ (by first | exact Nat.le_refl _ | (simp; done) | omega | (simp; omega)) _)))⟩
  case round =>
    obtain ⟨k, A9, c9, hk, hgas, rfl, rfl, ho, ⟨z, rfl⟩⟩ := hrel
    have hzs := z.size
    by_cases hlt : k < X.length
    · have hx0 := H.out.1.of (w' := z.wd) (by (repeat (first | (with_reducible exact SinceOf.refl _) | (with_reducible assumption) | (with_reducible refine SinceOf.alloc ?_ _) | (with_reducible refine SinceOf.drew ?_) | (with_reducible refine SinceOf.drewN ?_ _) | (with_reducible refine SinceOf.later ?_ _) | (with_reducible refine SinceOf.further ?_ _) | (with_reducible refine SinceOf.setCell ?_ (by first | exact Nat.le_refl _ | (simp; done) | omega | (simp; omega)) _))))
      obtain ⟨g, off, rfl, hr⟩ := hx0.row.at_ (by omega)
      have hO := hr.there
      have k0 := hr.g0 k hlt
      have hrx := hx0.all _ (List.getElem_mem hlt)
      have hll := H.out.2 _ (List.getElem_mem hlt)
      have hsn := forbF_snoc (S := vxs X) (y := y) (k := k) (by rw [vxs_len]; exact hlt)
      rw [vxs_at hlt] at hsn
      have hfl := forbF_len ((vxs X).take k) y
      rw [List.length_take, vxs_len] at hfl
      generalize X[k] = x at *
      have RM := fun W (hW : SinceOf z.wd W) => row_any x.A x.c x.xs y W (hrx.of hW).row hll
      generalize rowM x.xs y = m at *
      obtain ⟨ma, mb, mok⟩ := m
      simp only at RM hsn
      obtain ⟨L, hL⟩ : ∃ L, L = forbF ((vxs X).take k) y := ⟨_, rfl⟩
      rw [← hL] at ho hsn hfl ⊢
      have hLk : L.length ≤ 10000 := by omega
      clear hL hr hx0 hrx hll hfl
      cases mok
      · have HP := Lib.hid (And.intro ho hsn)
        clear ho hsn
        go_wp2_with fail
        refine (RM _ (by (repeat (first | (with_reducible exact SinceOf.refl _) | (with_reducible assumption) | (with_reducible refine SinceOf.alloc ?_ _) | (with_reducible refine SinceOf.drew ?_) | (with_reducible refine SinceOf.drewN ?_ _) | (with_reducible refine SinceOf.later ?_ _) | (with_reducible refine SinceOf.further ?_ _) | (with_reducible refine SinceOf.setCell ?_ (by first | exact Nat.le_refl _ | (simp; done) | omega | (simp; omega)) _))))).calls.mono ?_
        rintro e _ ⟨rfl, x1, rfl⟩
        go_wp2_with fail
        go_roundg (X.length - (k + 1))
        case measure => omega
        case rel => exact ⟨k + 1, A9, c9, hlt, Nat.le_refl _, by rw [HP.out.2]; simp, by go_num, by rw [HP.out.2]; simp; exact HP.out.1.of (by (repeat (first | (with_reducible exact SinceOf.refl _) | (with_reducible assumption) | (with_reducible refine SinceOf.alloc ?_ _) | (with_reducible refine SinceOf.drew ?_) | (with_reducible refine SinceOf.drewN ?_ _) | (with_reducible refine SinceOf.later ?_ _) | (with_reducible refine SinceOf.further ?_ _) | (with_reducible refine SinceOf.setCell ?_ (by first | exact Nat.le_refl _ | (simp; done) | omega | (simp; omega)) _)))), by (repeat (first | (with_reducible exact SinceOf.refl _) | (with_reducible assumption) | (with_reducible refine SinceOf.alloc ?_ _) | (with_reducible refine SinceOf.drew ?_) | (with_reducible refine SinceOf.drewN ?_ _) | (with_reducible refine SinceOf.later ?_ _) | (with_reducible refine SinceOf.further ?_ _) | (with_reducible refine SinceOf.setCell ?_ (by first | exact Nat.le_refl _ | (simp; done) | omega | (simp; omega)) _)))⟩
      · have HP := Lib.hid (And.intro ho hsn)
        clear ho hsn
        go_wp2_with fail
        refine (RM _ (by (repeat (first | (with_reducible exact SinceOf.refl _) | (with_reducible assumption) | (with_reducible refine SinceOf.alloc ?_ _) | (with_reducible refine SinceOf.drew ?_) | (with_reducible refine SinceOf.drewN ?_ _) | (with_reducible refine SinceOf.later ?_ _) | (with_reducible refine SinceOf.further ?_ _) | (with_reducible refine SinceOf.setCell ?_ (by first | exact Nat.le_refl _ | (simp; done) | omega | (simp; omega)) _))))).calls.mono ?_
        rintro e _ ⟨rfl, x1, rfl⟩
        have hx1 := x1.size
        go_wp2_with (at_builtin; refine wpList_append_row rfl (.tmp 35) (.tmp 39) 60 rfl encV_len (by omega) encV_one i0 _ 16 Tryz.underlying60 HI.out.1 HI.out.2.1 HI.out.2.2.1 HI.out.2.2.2 rfl (l := L) (A := A9) (c := c9) (base := w.heap.size) rfl (HP.out.1.of (by (repeat (first | (with_reducible exact SinceOf.refl _) | (with_reducible assumption) | (with_reducible refine SinceOf.alloc ?_ _) | (with_reducible refine SinceOf.drew ?_) | (with_reducible refine SinceOf.drewN ?_ _) | (with_reducible refine SinceOf.later ?_ _) | (with_reducible refine SinceOf.further ?_ _) | (with_reducible refine SinceOf.setCell ?_ (by first | exact Nat.le_refl _ | (simp; done) | omega | (simp; omega)) _))))) (m := [(ma, mb)]) rfl (isRow_atI _ _ ma mb (by first | rfl | simp)) (by unfold maxLen; simp; omega) (by simp; omega) (by simp; omega) ?_; intro A5 c5 w5 ho5 hgr5 hb5)
        go_roundg (X.length - (k + 1))
        case measure => omega
        case rel => exact ⟨k + 1, A5, c5, hlt, Nat.le_refl _, by rw [HP.out.2]; first | rfl | simp, by go_num, by rw [HP.out.2]; exact ho5, SinceOf.grown (by (repeat (first | (with_reducible exact SinceOf.refl _) | (with_reducible assumption) | (with_reducible refine SinceOf.alloc ?_ _) | (with_reducible refine SinceOf.drew ?_) | (with_reducible refine SinceOf.drewN ?_ _) | (with_reducible refine SinceOf.later ?_ _) | (with_reducible refine SinceOf.further ?_ _) | (with_reducible refine SinceOf.setCell ?_ (by first | exact Nat.le_refl _ | (simp; done) | omega | (simp; omega)) _)))) hgr5 (fun q hq => (HP.out.1.below q hq).1)⟩
    · obtain rfl : k = X.length := by omega
      rw [List.take_of_length_le (by rw [vxs_len]; exact Nat.le_refl _)] at ho ⊢
      have hfl := forbF_len (vxs X) y
      rw [vxs_len] at hfl
      have FR := free_any w A9 c9 (forbF (vxs X) y) (imax lo (-8000)) (imin hi 8000) z.wd ⟨z, rfl⟩ ho (fun f hf => (forbF_le f hf).2) (by omega)
      have HFR := Lib.hid FR
      clear ho FR hfl
      go_wp2_with fail
      refine HFR.out.mono ?_
      rintro e w2 ⟨A', c', m, rfl, hp, hs, ho2, hsi⟩
      have HR := Lib.hid (And.intro (show RowV (vxs X) y lo hi (freeS m (imax lo (-8000)) (imin hi 8000)) by
        rw [imax_eq, imin_eq]; exact RowV.free HY.out.1 HY.out.2 hp hs) (And.intro (ho2.base_le hzs) hsi))
      clear hp hs ho2 hsi
      go_wp2_with fail
      go_returns
      exact ⟨A', c', _, rfl, HR.out.1, HR.out.2.1, HR.out.2.2⟩
end Go.Proofs.YtpbgimdbhgahkaaGreat
