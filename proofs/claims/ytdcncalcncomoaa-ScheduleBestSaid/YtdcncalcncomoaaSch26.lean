/- Layer 52: Price. -/
import Derived.Test.YtdcncalcncomoaaSch25
namespace Go.Proofs.Ytdcncalcncomoaa
open Go.RowKit Go.Sort
set_option linter.unusedVariables false
attribute [local go_sem ↓] Go.wp_at_zero Go.wp_at_succ

structure BoolsN (w : World) (g n : Nat) (F : Nat → Bool) : Prop where
  cell : ∀ o, o < n → w.cell? ⟨g, o, none⟩ = some (.bool (F o))
  free : ∀ o, o < n → w.frozen? ⟨g, o, none⟩ = false
  there : Nonempty (Old w g)
theorem BoolsN.of {w w' : World} {g n : Nat} {F : Nat → Bool} (h : BoolsN w g n F) (hs : SinceOf w w') : BoolsN w' g n F := by
  obtain ⟨z, rfl⟩ := hs
  have := h.there
  exact ⟨fun o ho => by rw [Since.cell]; exact h.cell o ho, fun o ho => by rw [Since.frozen]; exact h.free o ho, inferInstance⟩
theorem BoolsN.set {w : World} {g n : Nat} {F : Nat → Bool} (h : BoolsN w g n F) (i : Nat) (v : Bool) : BoolsN (w.setCell ⟨g, i, none⟩ (.bool v)) g n (fun o => if o = i then v else F o) := by
  have := h.there
  refine ⟨fun o ho => ?_, fun o ho => by rw [World.frozen?_setCell]; exact h.free o ho, inferInstance⟩
  by_cases e : o = i
  · subst e
    rw [if_pos rfl]
    exact World.cell?_setCell_same _ _ _ (h.cell o ho)
  · rw [if_neg e, World.cell?_setCell_other _ _ _ _ (by intro h; injection h with _ h2 _; exact e h2.symm)]
    exact h.cell o ho
theorem BoolsN.other {w : World} {g n : Nat} {F : Nat → Bool} (h : BoolsN w g n F) (b i : Nat) (u : Value) (hne : g ≠ b) : BoolsN (w.setCell ⟨b, i, none⟩ u) g n F := by
  have := h.there
  refine ⟨fun o ho => ?_, fun o ho => by rw [World.frozen?_setCell]; exact h.free o ho, inferInstance⟩
  rw [World.cell?_setCell_other _ _ _ _ (by intro h; injection h with h1; exact hne h1.symm)]
  exact h.cell o ho
theorem BoolsN.congr {w : World} {g n : Nat} {F G : Nat → Bool} (h : BoolsN w g n F) (e : ∀ o, o < n → F o = G o) : BoolsN w g n G := ⟨fun o ho => by rw [← e o ho]; exact h.cell o ho, h.free, h.there⟩
theorem SlotW.other {w : World} {g : Nat} {x : SlotR} (h : SlotW w g x) (b i : Nat) (u : Value) (hne : g ≠ b) : SlotW (w.setCell ⟨b, i, none⟩ u) g x := by
  obtain ⟨c0, c1, c2, c3, f0, f1, f2, f3, hO⟩ := h
  have ne : ∀ j : Nat, (⟨b, i, none⟩ : Addr) ≠ ⟨g, j, none⟩ := fun j e => hne (by injection e with e1; exact e1.symm)
  exact ⟨(World.cell?_setCell_other _ _ _ _ (ne _)).trans c0, (World.cell?_setCell_other _ _ _ _ (ne _)).trans c1, (World.cell?_setCell_other _ _ _ _ (ne _)).trans c2, (World.cell?_setCell_other _ _ _ _ (ne _)).trans c3, by simpa using f0, by simpa using f1, by simpa using f2, by simpa using f3, inferInstance⟩
theorem addr_ne {g i j : Nat} (h : i ≠ j) : (⟨g, i, none⟩ : Addr) ≠ ⟨g, j, none⟩ := fun e => h (by injection e)
theorem SlotW.set0 {w : World} {g : Nat} {x : SlotR} (h : SlotW w g x) (v : Int) : SlotW (w.setCell ⟨g, 0, none⟩ (.int .i64 v)) g ⟨v, x.mach, x.start, x.stop⟩ := by
  obtain ⟨c0, c1, c2, c3, f0, f1, f2, f3, hO⟩ := h
  exact ⟨World.cell?_setCell_same _ _ _ c0, (World.cell?_setCell_other _ _ _ _ (addr_ne (by omega))).trans c1, (World.cell?_setCell_other _ _ _ _ (addr_ne (by omega))).trans c2, (World.cell?_setCell_other _ _ _ _ (addr_ne (by omega))).trans c3, by simpa using f0, by simpa using f1, by simpa using f2, by simpa using f3, inferInstance⟩
theorem SlotW.set1 {w : World} {g : Nat} {x : SlotR} (h : SlotW w g x) (v : Int) : SlotW (w.setCell ⟨g, 1, none⟩ (.int .i64 v)) g ⟨x.job, v, x.start, x.stop⟩ := by
  obtain ⟨c0, c1, c2, c3, f0, f1, f2, f3, hO⟩ := h
  exact ⟨(World.cell?_setCell_other _ _ _ _ (addr_ne (by omega))).trans c0, World.cell?_setCell_same _ _ _ c1, (World.cell?_setCell_other _ _ _ _ (addr_ne (by omega))).trans c2, (World.cell?_setCell_other _ _ _ _ (addr_ne (by omega))).trans c3, by simpa using f0, by simpa using f1, by simpa using f2, by simpa using f3, inferInstance⟩
theorem SlotW.set2 {w : World} {g : Nat} {x : SlotR} (h : SlotW w g x) (v : Int) : SlotW (w.setCell ⟨g, 2, none⟩ (.int .i64 v)) g ⟨x.job, x.mach, v, x.stop⟩ := by
  obtain ⟨c0, c1, c2, c3, f0, f1, f2, f3, hO⟩ := h
  exact ⟨(World.cell?_setCell_other _ _ _ _ (addr_ne (by omega))).trans c0, (World.cell?_setCell_other _ _ _ _ (addr_ne (by omega))).trans c1, World.cell?_setCell_same _ _ _ c2, (World.cell?_setCell_other _ _ _ _ (addr_ne (by omega))).trans c3, by simpa using f0, by simpa using f1, by simpa using f2, by simpa using f3, inferInstance⟩
theorem SlotW.set3 {w : World} {g : Nat} {x : SlotR} (h : SlotW w g x) (v : Int) : SlotW (w.setCell ⟨g, 3, none⟩ (.int .i64 v)) g ⟨x.job, x.mach, x.start, v⟩ := by
  obtain ⟨c0, c1, c2, c3, f0, f1, f2, f3, hO⟩ := h
  exact ⟨(World.cell?_setCell_other _ _ _ _ (addr_ne (by omega))).trans c0, (World.cell?_setCell_other _ _ _ _ (addr_ne (by omega))).trans c1, (World.cell?_setCell_other _ _ _ _ (addr_ne (by omega))).trans c2, World.cell?_setCell_same _ _ _ c3, by simpa using f0, by simpa using f1, by simpa using f2, by simpa using f3, inferInstance⟩

def lateOf (L : List JobR) (x : SlotR) : Int := x.stop - (jobAt L x.job).due
def hasB (l : List SlotR) (j : Nat) : Bool := l.any fun y => y.job == (j : Int)
def missN (n : Nat) (l : List SlotR) : Int := (n : Int) - ((List.range n).countP (hasB l) : Nat)
def tardyL (L : List JobR) : List SlotR → Int
  | [] => 0
  | x :: r => (if 0 < lateOf L x then lateOf L x else 0) + tardyL L r
def worstL (L : List JobR) (l : List SlotR) : Int := l.foldl (fun m x => if 0 < lateOf L x then imax m (lateOf L x) else m) 0
def endL (l : List SlotR) : Int := l.foldl (fun m x => imax m x.stop) 0
/-- The cost of a schedule, in the four places of a slot. -/
def priceV (L : List JobR) (l : List SlotR) : SlotR := ⟨missN L.length l, tardyL L l, worstL L l, endL l⟩
theorem tardyL_append (L : List JobR) : ∀ l m, tardyL L (l ++ m) = tardyL L l + tardyL L m
  | [], m => by simp [tardyL]
  | x :: l, m => by simp only [List.cons_append, tardyL, tardyL_append L l m]; omega
theorem hasB_snoc (l : List SlotR) (x : SlotR) (j : Nat) : hasB (l ++ [x]) j = (hasB l j || x.job == (j : Int)) := by simp [hasB]
theorem cnt_set (F : Nat → Bool) (i : Nat) : ∀ n, (List.range n).countP (fun j => F j || ((i : Int) == (j : Int))) = (List.range n).countP F + (if i < n ∧ F i = false then 1 else 0)
  | 0 => by simp
  | n + 1 => by
    rw [List.range_succ, List.countP_append, List.countP_append, cnt_set F i n]
    simp only [List.countP_singleton]
    by_cases e : i = n
    · subst e
      cases h : F i <;> simp
    · rw [show ((i : Int) == (n : Int)) = false from by simp; omega, Bool.or_false]
      have h3 : (i < n + 1 ∧ F i = false) ↔ (i < n ∧ F i = false) := ⟨fun h => ⟨by omega, h.2⟩, fun h => ⟨by omega, h.2⟩⟩
      simp only [h3]
      omega
theorem cg_false (F : Nat → Bool) (i o : Nat) : (if o = i then true else F o) = (F o || ((i : Int) == (o : Int))) := by
  by_cases e : o = i
  · subst e; simp
  · rw [if_neg e, show ((i : Int) == (o : Int)) = false from by simp; omega, Bool.or_false]
theorem cg_true (F : Nat → Bool) (i o : Nat) (h : F i = true) : F o = (F o || ((i : Int) == (o : Int))) := by
  by_cases e : o = i
  · subst e; rw [h]; rfl
  · rw [show ((i : Int) == (o : Int)) = false from by simp; omega, Bool.or_false]
theorem missN_nil (n : Nat) : missN n [] = n := by
  unfold missN
  rw [List.countP_eq_zero.2 (fun _ _ => by simp [hasB])]
  simp
theorem missN_snoc (n : Nat) (l : List SlotR) (i : Nat) (x : SlotR) (hx : x.job = i) (hi : i < n) : missN n (l ++ [x]) = missN n l - (if hasB l i = true then 0 else 1) := by
  unfold missN
  rw [show hasB (l ++ [x]) = (fun j => hasB l j || ((i : Int) == (j : Int))) from funext fun j => by rw [hasB_snoc, hx], cnt_set]
  cases h : hasB l i <;> simp [hi] <;> omega
theorem missN_bounds (n : Nat) (l : List SlotR) : 0 ≤ missN n l ∧ missN n l ≤ n := by
  unfold missN
  have := List.countP_le_length (p := hasB l) (l := List.range n)
  rw [List.length_range] at this
  omega
theorem tardyL_bounds (L : List JobR) : ∀ l, (∀ x ∈ l, lateOf L x ≤ 1000000) → 0 ≤ tardyL L l ∧ tardyL L l ≤ 1000000 * l.length
  | [], _ => by simp [tardyL]
  | x :: l, h => by
    have h1 := tardyL_bounds L l (fun y hy => h y (by simp [hy]))
    have h2 := h x (by simp)
    simp only [tardyL, List.length_cons]
    split <;> omega
theorem infoBool : (Try.prog.info? 4).map (fun i => (i.zero, i.size, i.bytes)) = some (some (.bool false), 1, 1) := by kernel_rfl
def encB (x : Bool) : List Value := [.bool x]
theorem encB_len (x : Bool) : (encB x).length = 1 := rfl
theorem boolsN_of {base : Nat} {e : TypeId} {w : World} {g c n : Nat} (h : Owns encB 1 base e w (some ⟨g, 0, none⟩) c (List.replicate n false)) (hO : Nonempty (Old w g)) : BoolsN w g n (fun _ => false) := by
  by_cases h0 : n = 0
  · subst h0
    exact ⟨fun o ho => by omega, fun o ho => by omega, hO⟩
  · obtain ⟨g', e1, -, hlv⟩ := h.live encB_len (by simp; omega)
    simp only [Option.some.injEq, Addr.mk.injEq, and_true] at e1
    subst e1
    refine ⟨fun o ho => ?_, fun o ho => ?_, hO⟩
    · have := hlv.row.cells o (by simpa using ho) 0 (.bool false) (by simp [encB])
      simpa using this
    · have := hlv.free o (by simpa using ho)
      simpa using this
set_option maxRecDepth 100000 in
set_option maxHeartbeats 8000000 in
theorem price_any (A : Option Addr) (c : Nat) (L : List JobR) (B : Option Addr) (d : Nat) (l : List SlotR) (w : World) (h : IsJobs w A c L) (hL : L.length < 1073741824) (hdue : ∀ j ∈ L, 0 ≤ j.due ∧ j.due ≤ 1000000) (hl : IsSlots w B d l) (hll : l.length < 1073741824) (hn : ∀ x ∈ l, (0 ≤ x.job ∧ x.job < L.length) ∧ 0 ≤ x.stop ∧ x.stop ≤ 1000000) :
    Yields Try.prog 26 #[.slice A L.length c, .slice B l.length d] w (slotV (priceV L l)) := by
  apply Yields.ret
  have I1 := fun (j : Int) W => in_any j 0 ((L.length : Int) - 1) W
  obtain ⟨i0, hi, hz0, hz1, hz2⟩ := info_parts infoBool
  have HI := Lib.hid (And.intro hi (And.intro hz0 (And.intro hz1 hz2)))
  have H := Lib.hid (And.intro h (And.intro hdue (And.intro hl hn)))
  obtain ⟨pv, hpv0⟩ : ∃ v, v = priceV L l := ⟨_, rfl⟩
  rw [← hpv0]
  have HP := Lib.hid hpv0
  clear hi hz0 hz1 hz2 h hdue hl hn hpv0
  go_enter Try.func26, Try.ntmps26
  go_wp2_with (refine wpList_make_owns _ rfl (.tmp 14) (.tmp 14) 108 rfl encB_len false i0 _ 1 Try.underlying108 HI.out.1 HI.out.2.1 HI.out.2.2.1 HI.out.2.2.2 rfl (by omega) L.length L.length rfl rfl (Nat.le_refl _) (by omega) (by unfold maxLen; omega) (Nat.le_refl _) ?_; intro cs hown)
  have hbo : BoolsN _ (w.heap.size + 1 + 1) L.length (fun _ => false) := boolsN_of (by simpa using hown) inferInstance
  have HB0 := Lib.hid hbo
  clear hbo hown
  go_loopg [18] l.length (fun gas s18 wr => ∃ (k : Nat), k ≤ l.length ∧ l.length - k ≤ gas ∧ s18 = .int .i64 k ∧ SinceOf (w.alloc (.cells #[.int .i64 0, .int .i64 0, .int .i64 0, .int .i64 0] 80)) wr ∧ SlotW wr (w.heap.size + 1) (priceV L (l.take k)) ∧ BoolsN wr (w.heap.size + 1 + 1) L.length (hasB (l.take k)))
  case atStart => exact ⟨0, by omega, by omega, rfl, by (repeat (first | (with_reducible exact SinceOf.refl _) | (with_reducible assumption) | (with_reducible refine SinceOf.alloc ?_ _) | (with_reducible refine SinceOf.drew ?_) | (with_reducible refine SinceOf.drewN ?_ _) | (with_reducible refine SinceOf.later ?_ _) | (with_reducible refine SinceOf.further ?_ _) | (with_reducible refine SinceOf.setCell ?_ (by first | exact Nat.le_refl _ | (simp; done) | omega | (simp; omega)) _))), ⟨by simp [go_sem, priceV, missN_nil], by simp [go_sem, priceV, tardyL], by simp [go_sem, priceV, worstL], by simp [go_sem, priceV, endL], by simp [go_sem], by simp [go_sem], by simp [go_sem], by simp [go_sem], inferInstance⟩, HB0.out.congr (by intro o ho; simp [hasB])⟩
  case round =>
    obtain ⟨k, hk, hgas, rfl, ⟨z, rfl⟩, hsw, hbn⟩ := hrel
    by_cases hlt : k < l.length
    · have hrl := H.out.2.2.1.of (show SinceOf w z.wd by (repeat (first | (with_reducible exact SinceOf.refl _) | (with_reducible assumption) | (with_reducible refine SinceOf.alloc ?_ _) | (with_reducible refine SinceOf.drew ?_) | (with_reducible refine SinceOf.drewN ?_ _) | (with_reducible refine SinceOf.later ?_ _) | (with_reducible refine SinceOf.further ?_ _) | (with_reducible refine SinceOf.setCell ?_ (by first | exact Nat.le_refl _ | (simp; done) | omega | (simp; omega)) _))))
      obtain ⟨gs, os, rfl, hrs⟩ := hrl.at_ (by omega)
      have hOs := hrs.there
      have s0 := hrs.s0 k hlt
      have s1 := hrs.s1 k hlt
      have s2 := hrs.s2 k hlt
      have s3 := hrs.s3 k hlt
      obtain ⟨⟨hj0, hj1⟩, ht0, ht1⟩ := H.out.2.2.2 _ (List.getElem_mem hlt)
      obtain ⟨jn, hjn⟩ : ∃ q : Nat, l[k].job = q := ⟨l[k].job.toNat, by omega⟩
      have hjl : jn < L.length := by omega
      obtain ⟨gj, oj, hAj, hrj⟩ := (H.out.1.row.of (show SinceOf w z.wd by (repeat (first | (with_reducible exact SinceOf.refl _) | (with_reducible assumption) | (with_reducible refine SinceOf.alloc ?_ _) | (with_reducible refine SinceOf.drew ?_) | (with_reducible refine SinceOf.drewN ?_ _) | (with_reducible refine SinceOf.later ?_ _) | (with_reducible refine SinceOf.further ?_ _) | (with_reducible refine SinceOf.setCell ?_ (by first | exact Nat.le_refl _ | (simp; done) | omega | (simp; omega)) _))))).at_ (by omega)
      subst hAj
      have hOj := hrj.there
      have j4 := hrj.j4 jn hjl
      obtain ⟨hd0, hd1⟩ := H.out.2.1 _ (List.getElem_mem hjl)
      have hlate : lateOf L l[k] = l[k].stop - L[jn].due := by unfold lateOf; rw [hjn, jobAt_at hjl]
      have hM := missN_bounds L.length (l.take k)
      have hT := tardyL_bounds L (l.take k) (fun y hy => by
        obtain ⟨⟨a1, a2⟩, a3, a4⟩ := H.out.2.2.2 y (List.mem_of_mem_take hy)
        unfold lateOf
        have : 0 ≤ (jobAt L y.job).due := by
          have := jobAt_at (L := L) (m := y.job.toNat) (by omega)
          rw [show ((y.job.toNat : Nat) : Int) = y.job by omega] at this
          rw [this]
          exact (H.out.2.1 _ (List.getElem_mem (by omega))).1
        omega)
      rw [List.length_take, Nat.min_eq_left hk] at hT
      have hpe : priceV L (l.take (k + 1)) = ⟨missN L.length (l.take k) - (if hasB (l.take k) jn = true then 0 else 1), tardyL L (l.take k) + (if 0 < l[k].stop - L[jn].due then l[k].stop - L[jn].due else 0), if 0 < l[k].stop - L[jn].due then imax (worstL L (l.take k)) (l[k].stop - L[jn].due) else worstL L (l.take k), imax (endL (l.take k)) l[k].stop⟩ := by
        unfold priceV
        rw [List.take_succ_eq_append_getElem hlt, missN_snoc _ _ jn _ hjn hjl, tardyL_append]
        simp only [tardyL, worstL, endL, List.foldl_append, List.foldl_cons, List.foldl_nil, hlate]
        simp
      have hbe : ∀ o, hasB (l.take (k + 1)) o = (hasB (l.take k) o || ((jn : Int) == (o : Int))) := fun o => by rw [List.take_succ_eq_append_getElem hlt, hasB_snoc, hjn]
      have hh := hbn.cell jn hjl
      have hf := hbn.free jn hjl
      have hsw0 := hsw
      obtain ⟨p0, p1, p2, p3, e0, e1, e2, e3, hOp⟩ := hsw
      have hOb := hbn.there
      unfold priceV at p0 p1 p2 p3
      simp only at p0 p1 p2 p3
      generalize hMv : missN L.length (l.take k) = M at *
      generalize hTv : tardyL L (l.take k) = T at *
      generalize hWv : worstL L (l.take k) = Wo at *
      generalize hEv : endL (l.take k) = En at *
      rw [hjn] at s0
      generalize l[k].stop = xe at *
      generalize l[k].start = xs at *
      generalize l[k].mach = xm at *
      generalize L[jn].due = du at *
      have hpv : priceV L (l.take k) = ⟨M, T, Wo, En⟩ := by unfold priceV; rw [hMv, hTv, hWv, hEv]
      rw [hpv] at hsw0
      generalize hhq : hasB (l.take k) jn = hq at *
      have HG := Lib.hid (And.intro hsw0 (And.intro hbn (And.intro hpe (And.intro hbe hhq))))
      clear hsw0 hbn hpe hbe hhq hpv hMv hTv hWv hEv hrs hrl hrj hlate hjn hj0 hj1
      have hq1 : Nonempty (Apart z.wd.heap.size (w.heap.size + 1)) := ⟨⟨by have := hOp.elim fun q => q.lt; omega⟩⟩
      have hq2 : Nonempty (Apart z.wd.heap.size (w.heap.size + 1 + 1)) := ⟨⟨by have := hOb.elim fun q => q.lt; omega⟩⟩
      have hq3 : Nonempty (Apart (w.heap.size + 1) (w.heap.size + 1 + 1)) := ⟨⟨by omega⟩⟩
      have hq4 : Nonempty (Apart (w.heap.size + 1 + 1) (w.heap.size + 1)) := ⟨⟨by omega⟩⟩
      have hin0 : decide (0 ≤ (jn : Int)) = true := by simp
      have hin1 : decide ((jn : Int) ≤ (L.length : Int) - 1) = true := by simp; omega
      cases hq
      · by_cases hla : 0 < xe - du
        · have hlb : decide (0 < xe - du) = true := by simpa using hla
          go_wp2_with fail
          refine (I1 _ _).mono ?_
          rintro e w' ⟨rfl, rfl⟩
          go_wp2_with fail
          refine region_later (by kernel_rfl) (by kernel_rfl) ?_
          repeat (go_big_quiet_step (fail))
          refine wpQuiet_nil ?_
          rintro _ ⟨z2, rfl⟩
          go_wp2_with fail
          go_roundg (l.length - (k + 1))
          case measure => omega
          case rel =>
            refine ⟨k + 1, hlt, Nat.le_refl _, by go_num, by (repeat (first | (with_reducible exact SinceOf.refl _) | (with_reducible assumption) | (with_reducible refine SinceOf.alloc ?_ _) | (with_reducible refine SinceOf.drew ?_) | (with_reducible refine SinceOf.drewN ?_ _) | (with_reducible refine SinceOf.later ?_ _) | (with_reducible refine SinceOf.further ?_ _) | (with_reducible refine SinceOf.setCell ?_ (by first | exact Nat.le_refl _ | (simp; done) | omega | (simp; omega)) _))), ?_, ?_⟩
            · rw [HG.out.2.2.1, if_neg (by simp), if_pos hla, if_pos hla]
              exact ((((((HG.out.1.of ((SinceOf.refl z.wd).alloc _)).set3 (imax En xe)).other (w.heap.size + 1 + 1) jn (.bool true) (by omega)).set0 (M - 1)).of (LaterOf.since ⟨z2, rfl⟩)).set1 (T + (xe - du))).set2 (imax Wo (xe - du))
            · refine BoolsN.congr (((((((HG.out.2.1.of ((SinceOf.refl z.wd).alloc _)).other (w.heap.size + 1) 3 (.int .i64 (imax En xe)) (by omega)).set jn true).other (w.heap.size + 1) 0 (.int .i64 (M - 1)) (by omega)).of (LaterOf.since ⟨z2, rfl⟩)).other (w.heap.size + 1) 1 (.int .i64 (T + (xe - du))) (by omega)).other (w.heap.size + 1) 2 (.int .i64 (imax Wo (xe - du))) (by omega)) (fun o ho => by rw [HG.out.2.2.2.1 o]; exact cg_false _ _ _)
        · have hlb : decide (0 < xe - du) = false := by simpa using hla
          go_wp2_with fail
          refine (I1 _ _).mono ?_
          rintro e w' ⟨rfl, rfl⟩
          go_wp2_with fail
          refine region_later (by kernel_rfl) (by kernel_rfl) ?_
          repeat (go_big_quiet_step (fail))
          refine wpQuiet_nil ?_
          rintro _ ⟨z2, rfl⟩
          go_wp2_with fail
          go_roundg (l.length - (k + 1))
          case measure => omega
          case rel =>
            refine ⟨k + 1, hlt, Nat.le_refl _, by go_num, by (repeat (first | (with_reducible exact SinceOf.refl _) | (with_reducible assumption) | (with_reducible refine SinceOf.alloc ?_ _) | (with_reducible refine SinceOf.drew ?_) | (with_reducible refine SinceOf.drewN ?_ _) | (with_reducible refine SinceOf.later ?_ _) | (with_reducible refine SinceOf.further ?_ _) | (with_reducible refine SinceOf.setCell ?_ (by first | exact Nat.le_refl _ | (simp; done) | omega | (simp; omega)) _))), ?_, ?_⟩
            · rw [HG.out.2.2.1, if_neg (by simp), if_neg (by omega), if_neg (by omega), Int.add_zero]
              exact ((((HG.out.1.of ((SinceOf.refl z.wd).alloc _)).set3 (imax En xe)).other (w.heap.size + 1 + 1) jn (.bool true) (by omega)).set0 (M - 1)).of (LaterOf.since ⟨z2, rfl⟩)
            · refine BoolsN.congr (((((HG.out.2.1.of ((SinceOf.refl z.wd).alloc _)).other (w.heap.size + 1) 3 (.int .i64 (imax En xe)) (by omega)).set jn true).other (w.heap.size + 1) 0 (.int .i64 (M - 1)) (by omega)).of (LaterOf.since ⟨z2, rfl⟩)) (fun o ho => by rw [HG.out.2.2.2.1 o]; exact cg_false _ _ _)
      · by_cases hla : 0 < xe - du
        · have hlb : decide (0 < xe - du) = true := by simpa using hla
          go_wp2_with fail
          refine (I1 _ _).mono ?_
          rintro e w' ⟨rfl, rfl⟩
          go_wp2_with fail
          refine region_later (by kernel_rfl) (by kernel_rfl) ?_
          repeat (go_big_quiet_step (fail))
          refine wpQuiet_nil ?_
          rintro _ ⟨z2, rfl⟩
          go_wp2_with fail
          go_roundg (l.length - (k + 1))
          case measure => omega
          case rel =>
            refine ⟨k + 1, hlt, Nat.le_refl _, by go_num, by (repeat (first | (with_reducible exact SinceOf.refl _) | (with_reducible assumption) | (with_reducible refine SinceOf.alloc ?_ _) | (with_reducible refine SinceOf.drew ?_) | (with_reducible refine SinceOf.drewN ?_ _) | (with_reducible refine SinceOf.later ?_ _) | (with_reducible refine SinceOf.further ?_ _) | (with_reducible refine SinceOf.setCell ?_ (by first | exact Nat.le_refl _ | (simp; done) | omega | (simp; omega)) _))), ?_, ?_⟩
            · rw [HG.out.2.2.1, if_pos (by trivial), Int.sub_zero, if_pos hla, if_pos hla]
              exact ((((HG.out.1.of ((SinceOf.refl z.wd).alloc _)).set3 (imax En xe)).of (LaterOf.since ⟨z2, rfl⟩)).set1 (T + (xe - du))).set2 (imax Wo (xe - du))
            · refine BoolsN.congr (((((HG.out.2.1.of ((SinceOf.refl z.wd).alloc _)).other (w.heap.size + 1) 3 (.int .i64 (imax En xe)) (by omega)).of (LaterOf.since ⟨z2, rfl⟩)).other (w.heap.size + 1) 1 (.int .i64 (T + (xe - du))) (by omega)).other (w.heap.size + 1) 2 (.int .i64 (imax Wo (xe - du))) (by omega)) (fun o ho => by rw [HG.out.2.2.2.1 o]; exact cg_true _ _ _ HG.out.2.2.2.2)
        · have hlb : decide (0 < xe - du) = false := by simpa using hla
          go_wp2_with fail
          refine (I1 _ _).mono ?_
          rintro e w' ⟨rfl, rfl⟩
          go_wp2_with fail
          refine region_later (by kernel_rfl) (by kernel_rfl) ?_
          repeat (go_big_quiet_step (fail))
          refine wpQuiet_nil ?_
          rintro _ ⟨z2, rfl⟩
          go_wp2_with fail
          go_roundg (l.length - (k + 1))
          case measure => omega
          case rel =>
            refine ⟨k + 1, hlt, Nat.le_refl _, by go_num, by (repeat (first | (with_reducible exact SinceOf.refl _) | (with_reducible assumption) | (with_reducible refine SinceOf.alloc ?_ _) | (with_reducible refine SinceOf.drew ?_) | (with_reducible refine SinceOf.drewN ?_ _) | (with_reducible refine SinceOf.later ?_ _) | (with_reducible refine SinceOf.further ?_ _) | (with_reducible refine SinceOf.setCell ?_ (by first | exact Nat.le_refl _ | (simp; done) | omega | (simp; omega)) _))), ?_, ?_⟩
            · rw [HG.out.2.2.1, if_pos (by trivial), Int.sub_zero, if_neg (by omega), if_neg (by omega), Int.add_zero]
              exact ((HG.out.1.of ((SinceOf.refl z.wd).alloc _)).set3 (imax En xe)).of (LaterOf.since ⟨z2, rfl⟩)
            · refine BoolsN.congr (((HG.out.2.1.of ((SinceOf.refl z.wd).alloc _)).other (w.heap.size + 1) 3 (.int .i64 (imax En xe)) (by omega)).of (LaterOf.since ⟨z2, rfl⟩)) (fun o ho => by rw [HG.out.2.2.2.1 o]; exact cg_true _ _ _ HG.out.2.2.2.2)
    · have hkl : k = l.length := by omega
      rw [hkl, List.take_length, ← HP.out] at hsw
      obtain ⟨p0, p1, p2, p3, e0, e1, e2, e3, hOp⟩ := hsw
      clear hbn hkl
      go_wp2_with fail
      go_returns
      exact ⟨rfl, by (repeat (first | (with_reducible exact SinceOf.refl _) | (with_reducible assumption) | (with_reducible refine SinceOf.alloc ?_ _) | (with_reducible refine SinceOf.drew ?_) | (with_reducible refine SinceOf.drewN ?_ _) | (with_reducible refine SinceOf.later ?_ _) | (with_reducible refine SinceOf.further ?_ _) | (with_reducible refine SinceOf.setCell ?_ (by first | exact Nat.le_refl _ | (simp; done) | omega | (simp; omega)) _)))⟩
end Go.Proofs.Ytdcncalcncomoaa
