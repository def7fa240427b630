/- Layer 15: the walk of Sum, over whatever sort. -/
import Derived.Test.YtpbgimdbhgahkaaGreatMink10
import Derived.Test.YtpbgimdbhgahkaaGreatMinkP6
import Derived.Laws.EntriesVeiled
namespace Go.Proofs.YtpbgimdbhgahkaaGreat
open Go.RowKit Go.Sort
set_option linter.unusedVariables false
set_option linter.unusedSimpArgs false
attribute [local go_sem ↓] Go.wp_at_zero Go.wp_at_succ

def addW (p q : Pt) : Pt := (wadd p.1 q.1, wadd p.2 q.2)
def atK (p : Pt) (d : List Pt) : Nat → Pt
  | 0 => p
  | k + 1 => addW (atK p d k) (at0 d k)
def crossP (p q : Pt) : Int := crossI p.1 p.2 q.1 q.2
def newB (d : List Pt) (k : Nat) : Bool := k == 0 || crossP (at0 d (k - 1)) (at0 d k) != 0
def outK (p : Pt) (d : List Pt) : Nat → List Pt
  | 0 => []
  | k + 1 => if newB d k then outK p d k ++ [atK p d k] else outK p d k
def sumOut (p : Pt) (d : List Pt) : List Pt × Int :=
  if (outK p d d.length).all inV then (if 160 < (outK p d d.length).length then ([], 9) else (outK p d d.length, 0)) else ([], 2)
theorem outK_len (p : Pt) (d : List Pt) : ∀ k, (outK p d k).length ≤ k
  | 0 => Nat.le_refl _
  | k + 1 => by
    have := outK_len p d k
    unfold outK
    split
    · rw [List.length_append]; simp; omega
    · omega
/-- What is asked of the sort. -/
def Sorts (n : Nat) (R : List Pt → List Pt → Prop) : Prop := (∀ l T, R l T → T.length = l.length) ∧ ∀ (g off c b7 : Nat) (l : List (Int × Int)) (w : World), Live encV 2 w g off l → l.length < n → (∀ x ∈ l, Dir16 x) →
    w.cell? ⟨b7, 0, none⟩ = some (.func (.func 61) #[] #[]) → Nonempty (Old w b7) → b7 ≠ g →
    Calls Tryz.prog 62 #[.slice (some ⟨g, off, none⟩) l.length c, .func (.func 63) #[] #[.pointer (some ⟨b7, 0, none⟩)]] w fun e w' => e = .returned (.tuple #[]) ∧ ∃ T, Live encV 2 w' g off T ∧ R l T ∧ w.grownBy w' (some g)
def insE (l : List Pt) : List Pt := (insertionSort (ltOf ecmp) l.toArray 0 l.length).toList
theorem insE_len (l : List Pt) : (insE l).length = l.length := by unfold insE; rw [Array.length_toList, insertionSort_size]; simp
theorem near_rotL {r : List Pt} {k : Nat} (h : ∀ p ∈ r, near 8000 p) : ∀ p ∈ rotL k r, near 8000 p := fun p hp => by
  unfold rotL at hp
  rcases List.mem_append.1 hp with q | q
  · exact h p (List.mem_of_mem_drop q)
  · exact h p (List.mem_of_mem_take q)
def insR (l T : List Pt) : Prop := T = insE l
theorem sorts20 : Sorts 20 insR := ⟨fun l T h => by rw [h, insE_len], fun g off c b7 l w hL hn _ h hO hne => (stable_few g off c b7 l w hL hn h hO hne).mono fun e w' ⟨he, hl, hg⟩ => ⟨he, _, hl, rfl, hg⟩⟩
theorem rotL_len {r : List Pt} {k : Nat} (h : k ≤ r.length) : (rotL k r).length = r.length := by unfold rotL; simp; omega
def SumRes (R : List Pt → List Pt → Prop) (r s : List Pt) (out : List Pt × Int) : Prop := ∃ k m T, k < r.length ∧ (∀ j, j < r.length → ¬ lexy (at0 r j) (at0 r k)) ∧ m < s.length ∧ (∀ j, j < s.length → ¬ lexy (at0 s j) (at0 s m)) ∧
  R (dirsK (rotL k r) r.length ++ dirsK (rotL m s) s.length) T ∧ out = sumOut (addW (at0 r k) (at0 s m)) T
theorem dirs_dir {r : List Pt} {k n : Nat} (h : Conv15 r) (hk : k < r.length) : ∀ x ∈ dirsK (rotL k r) n, Dir16 x := fun x hx => by
  unfold dirsK at hx
  obtain ⟨i, _, rfl⟩ := List.mem_map.1 hx
  have h3 := h.1
  have hl := rotL_length (r := r) (Nat.le_of_lt hk)
  have hh := (h.2.2.2.self h3).rot hk
  have hn := near_rotL (k := k) h.2.2.1
  have c := hh.next_ne (i := i % (rotL k r).length) (Nat.mod_lt _ (by omega))
  have e : rv (rotL k r) (i % (rotL k r).length + 1) = rv (rotL k r) (i + 1) := by unfold rv; rw [Nat.mod_add_mod]
  rw [e] at c
  have a := hn _ (rv_mem (r := rotL k r) (i := i) (by omega))
  have b := hn _ (rv_mem (r := rotL k r) (i := i + 1) (by omega))
  refine ⟨?_, fun e => c ?_⟩
  · unfold edgeV subP near at *; omega
  · unfold edgeV subP at e
    simp at e
    show rv (rotL k r) i = _
    exact Prod.ext (by omega) (by omega)

theorem VarV.keptG {W W' : World} {g : Nat} {p : Pt} {row : Option Nat} (h : VarV W g p) (hg : W.grownBy W' row) (hne : some g ≠ row) : VarV W' g p :=
  ⟨(World.grownBy.cell_far hg _ h.lt hne).trans h.c0, (World.grownBy.cell_far hg _ h.lt hne).trans h.c1, (World.grownBy.frozen_far hg _ h.lt hne).trans h.f0, (World.grownBy.frozen_far hg _ h.lt hne).trans h.f1, Nat.lt_of_lt_of_le h.lt hg.size⟩
theorem RowKit2.set2 (w : World) (g : Nat) (x y : Value) : w.grownBy ((w.setCell ⟨g, 0, none⟩ x).setCell ⟨g, 1, none⟩ y) (some g) := by
  have h1 := grownBy_setCell (w := w) (g := g) (p := ⟨g, 0, none⟩) rfl x
  have h2 := grownBy_setCell (w := w.setCell ⟨g, 0, none⟩ x) (g := g) (p := ⟨g, 1, none⟩) rfl y
  exact ⟨rfl, rfl, rfl, Nat.le_trans h1.size h2.size, fun k hk hne => (h2.block k (Nat.lt_of_lt_of_le hk h1.size) hne).trans (h1.block k hk hne)⟩
set_option maxRecDepth 100000 in
set_option maxHeartbeats 16000000 in
theorem sum_walk {n : Nat} {R : List Pt → List Pt → Prop} (hSt : Sorts n R) (A B : Option Addr) (c d : Nat) (r s : List (Int × Int)) (w : World) (h : IsVecs w A c r) (h2 : IsVecs w B d s) (hc : r.length ≤ c) (hd : s.length ≤ d)
    (hr : validB r = true) (hs : validB s = true) (hn : r.length + s.length < n) :
    Calls Tryz.prog 35 #[.slice A r.length c, .slice B s.length d] w fun e w' => ∃ A' c' out, e = .returned (.tuple #[.slice A' out.1.length c', .int .i64 out.2]) ∧ SumRes R r s out ∧ IsVecs w' A' c' out.1 ∧ out.1.length ≤ c' ∧ (∀ b, blockOf A' = some b → w.heap.size ≤ b) ∧ SinceOf w w' := by
  have H := Lib.hid (And.intro h h2)
  clear h h2
  have hcr := validB_iff.1 hr
  have hcs := validB_iff.1 hs
  have r3 := hcr.1
  have s3 := hcs.1
  have r160 := hcr.2.1
  have s160 := hcs.2.1
  have HN := Lib.hid (And.intro hcr.2.2.1 hcs.2.2.1)
  have HSt := Lib.hid hSt
  have HDr := Lib.hid (And.intro (fun k (hk : k < r.length) => dirs_dir (n := r.length) hcr hk) (fun k (hk : k < s.length) => dirs_dir (n := s.length) hcs hk))
  have VR := fun W (hW : SinceOf w W) => valid_any A c r W (H.out.1.of hW) (by omega)
  have VS := fun W (hW : SinceOf w W) => valid_any B d s W (H.out.2.of hW) (by omega)
  have BR := fun W (hW : SinceOf w W) => begun_any A c r W (H.out.1.of hW) (by omega) (by omega) hc
  have BS := fun W (hW : SinceOf w W) => begun_any B d s W (H.out.2.of hW) (by omega) (by omega) hd
  rw [hr] at VR
  rw [hs] at VS
  clear hcr hcs hr hs hc hd hSt
  obtain ⟨i0, hi, hz0, hz1, hz2⟩ := info_parts infoVec
  have HI := Lib.hid (And.intro hi (And.intro hz0 (And.intro hz1 hz2)))
  clear hi hz0 hz1 hz2
  go_enter Tryz.func35, Tryz.ntmps35
  go_wp2_with fail
  refine (VR _ (by (repeat (first | (with_reducible exact SinceOf.refl _) | (with_reducible assumption) | (with_reducible refine SinceOf.alloc ?_ _) | (with_reducible refine SinceOf.drew ?_) | (with_reducible refine SinceOf.drewN ?_ _) | (with_reducible refine SinceOf.later ?_ _) | (with_reducible refine SinceOf.further ?_ _) | (with_reducible refine SinceOf.setCell ?_ (by first | exact Nat.le_refl _ | (simp; done) | omega | (simp; omega)) _))))).calls.mono ?_
  rintro e _ ⟨rfl, x1, rfl⟩
  go_wp2_with fail
  refine (VS _ (by (repeat (first | (with_reducible exact SinceOf.refl _) | (with_reducible assumption) | (with_reducible refine SinceOf.alloc ?_ _) | (with_reducible refine SinceOf.drew ?_) | (with_reducible refine SinceOf.drewN ?_ _) | (with_reducible refine SinceOf.later ?_ _) | (with_reducible refine SinceOf.further ?_ _) | (with_reducible refine SinceOf.setCell ?_ (by first | exact Nat.le_refl _ | (simp; done) | omega | (simp; omega)) _))))).calls.mono ?_
  rintro e _ ⟨rfl, x2, rfl⟩
  clear VR VS
  go_wp2_with fail
  refine (BR _ (by (repeat (first | (with_reducible exact SinceOf.refl _) | (with_reducible assumption) | (with_reducible refine SinceOf.alloc ?_ _) | (with_reducible refine SinceOf.drew ?_) | (with_reducible refine SinceOf.drewN ?_ _) | (with_reducible refine SinceOf.later ?_ _) | (with_reducible refine SinceOf.further ?_ _) | (with_reducible refine SinceOf.setCell ?_ (by first | exact Nat.le_refl _ | (simp; done) | omega | (simp; omega)) _))))).mono ?_
  rintro e _ ⟨A1, c1, k, rfl, hk, hkm, ho1, ⟨x3, rfl⟩⟩
  go_wp2_with fail
  refine (BS _ (by (repeat (first | (with_reducible exact SinceOf.refl _) | (with_reducible assumption) | (with_reducible refine SinceOf.alloc ?_ _) | (with_reducible refine SinceOf.drew ?_) | (with_reducible refine SinceOf.drewN ?_ _) | (with_reducible refine SinceOf.later ?_ _) | (with_reducible refine SinceOf.further ?_ _) | (with_reducible refine SinceOf.setCell ?_ (by first | exact Nat.le_refl _ | (simp; done) | omega | (simp; omega)) _))))).mono ?_
  rintro e _ ⟨A2, c2, m, rfl, hm, hmm, ho2, ⟨x4, rfl⟩⟩
  clear BR BS
  have hv1 : IsVecs x4.wd A1 c1 (rotL k r) := (ho1.isRow encV_len).of (by (repeat (first | (with_reducible exact SinceOf.refl _) | (with_reducible assumption) | (with_reducible refine SinceOf.alloc ?_ _) | (with_reducible refine SinceOf.drew ?_) | (with_reducible refine SinceOf.drewN ?_ _) | (with_reducible refine SinceOf.later ?_ _) | (with_reducible refine SinceOf.further ?_ _) | (with_reducible refine SinceOf.setCell ?_ (by first | exact Nat.le_refl _ | (simp; done) | omega | (simp; omega)) _))))
  have hv2 : IsVecs x4.wd A2 c2 (rotL m s) := ho2.isRow encV_len
  have l1 : (rotL k r).length = r.length := rotL_len (by omega)
  have l2 : (rotL m s).length = s.length := rotL_len (by omega)
  have p1 : at0 (rotL k r) 0 = at0 r k := by have := rot_rv' (r := r) hk 0; rw [rv_lt (by omega), rv_lt (by omega)] at this; simpa using this
  have p2 : at0 (rotL m s) 0 = at0 s m := by have := rot_rv' (r := s) hm 0; rw [rv_lt (by omega), rv_lt (by omega)] at this; simpa using this
  have D1 := fun W (hW : SinceOf x4.wd W) => directions_any A1 c1 (rotL k r) W (hv1.of hW) (by omega) (near_rotL HN.out.1)
  have D2 := fun W (hW : SinceOf x4.wd W) => directions_any A2 c2 (rotL m s) W (hv2.of hW) (by omega) (near_rotL HN.out.2)
  rw [l1] at D1
  rw [l2] at D2
  have HB := Lib.hid (And.intro hv1 (And.intro hv2 (And.intro l1 (And.intro l2 (And.intro p1 p2)))))
  have HM := Lib.hid (And.intro hkm hmm)
  clear hv1 hv2 l1 l2 p1 p2 hkm hmm ho1 ho2
  obtain ⟨rr, hrr⟩ : ∃ rr, rr = rotL k r := ⟨_, rfl⟩
  obtain ⟨ss, hss⟩ : ∃ ss, ss = rotL m s := ⟨_, rfl⟩
  rw [← hrr] at D1 HB
  rw [← hss] at D2 HB
  have HRS := Lib.hid (And.intro hrr hss)
  clear hrr hss
  go_wp2_with fail
  refine (D1 _ (by (repeat (first | (with_reducible exact SinceOf.refl _) | (with_reducible assumption) | (with_reducible refine SinceOf.alloc ?_ _) | (with_reducible refine SinceOf.drew ?_) | (with_reducible refine SinceOf.drewN ?_ _) | (with_reducible refine SinceOf.later ?_ _) | (with_reducible refine SinceOf.further ?_ _) | (with_reducible refine SinceOf.setCell ?_ (by first | exact Nat.le_refl _ | (simp; done) | omega | (simp; omega)) _))))).mono ?_
  rintro e _ ⟨A3, c3, rfl, ho3, ⟨x5, rfl⟩⟩
  go_wp2_with fail
  refine (D2 _ (by (repeat (first | (with_reducible exact SinceOf.refl _) | (with_reducible assumption) | (with_reducible refine SinceOf.alloc ?_ _) | (with_reducible refine SinceOf.drew ?_) | (with_reducible refine SinceOf.drewN ?_ _) | (with_reducible refine SinceOf.later ?_ _) | (with_reducible refine SinceOf.further ?_ _) | (with_reducible refine SinceOf.setCell ?_ (by first | exact Nat.le_refl _ | (simp; done) | omega | (simp; omega)) _))))).mono ?_
  rintro e _ ⟨A4, c4, rfl, ho4, ⟨x6, rfl⟩⟩
  clear D1 D2
  have ld1 : (dirsK rr r.length).length = r.length := dirsK_len _ _
  have ld2 : (dirsK ss s.length).length = s.length := dirsK_len _ _
  obtain ⟨d1, hd1⟩ : ∃ d1, d1 = dirsK rr r.length := ⟨_, rfl⟩
  obtain ⟨d2, hd2⟩ : ∃ d2, d2 = dirsK ss s.length := ⟨_, rfl⟩
  rw [← hd1] at ho3 ld1
  rw [← hd2] at ho4 ld2
  have HO := Lib.hid (And.intro ho3 (And.intro ho4 (And.intro ld1 ld2)))
  have hdd : ∀ x ∈ d1 ++ d2, Dir16 x := fun x hx => by
    rcases List.mem_append.1 hx with q | q
    · rw [hd1, HRS.out.1] at q; exact HDr.out.1 k hk x q
    · rw [hd2, HRS.out.2] at q; exact HDr.out.2 m hm x q
  have HDX := Lib.hid hdd
  clear hdd HDr
  have HDD := Lib.hid (And.intro hd1 hd2)
  clear ho3 ho4 ld1 ld2 hd1 hd2
  have xs5 := x5.size
  have xs6 := x6.size
  go_wp2_with (at_builtin; refine wpList_append_row rfl (.tmp 25) (.tmp 27) 40 rfl encV_len (by omega) encV_one i0 _ 16 Tryz.underlying40 HI.out.1 HI.out.2.1 HI.out.2.2.1 HI.out.2.2.2 rfl (l := d1) (A := A3) (c := c3) (base := x4.wd.heap.size) (by rw [HO.out.2.2.1]; rfl) (HO.out.1.of (by (repeat (first | (with_reducible exact SinceOf.refl _) | (with_reducible assumption) | (with_reducible refine SinceOf.alloc ?_ _) | (with_reducible refine SinceOf.drew ?_) | (with_reducible refine SinceOf.drewN ?_ _) | (with_reducible refine SinceOf.later ?_ _) | (with_reducible refine SinceOf.further ?_ _) | (with_reducible refine SinceOf.setCell ?_ (by first | exact Nat.le_refl _ | (simp; done) | omega | (simp; omega)) _))))) (m := d2) (B := A4) (d := c4) (by rw [HO.out.2.2.2]; rfl) (HO.out.2.1.isRow encV_len) (by rw [HO.out.2.2.1, HO.out.2.2.2]; unfold maxLen; omega) (by rw [HO.out.2.2.1, HO.out.2.2.2]; omega) (by omega) ?_; intro A5 c5 w5 ho5 hgr5 hb5)
  obtain ⟨y5, rfl⟩ : SinceOf x4.wd w5 := SinceOf.grown (by (repeat (first | (with_reducible exact SinceOf.refl _) | (with_reducible assumption) | (with_reducible refine SinceOf.alloc ?_ _) | (with_reducible refine SinceOf.drew ?_) | (with_reducible refine SinceOf.drewN ?_ _) | (with_reducible refine SinceOf.later ?_ _) | (with_reducible refine SinceOf.further ?_ _) | (with_reducible refine SinceOf.setCell ?_ (by first | exact Nat.le_refl _ | (simp; done) | omega | (simp; omega)) _)))) hgr5 (fun q hq => (HO.out.1.below q hq).1)
  have hl5 : (d1 ++ d2).length = r.length + s.length := by rw [List.length_append, HO.out.2.2.1, HO.out.2.2.2]
  obtain ⟨g5, rfl, hg5, hL5⟩ := Owns.live encV_len ho5 (by omega)
  have hc5 := ho5.le_cap
  have hgl := hL5.row.there.elim fun q => q.lt
  have ST := fun W (hW : SinceOf y5.wd W) (h7 : W.cell? ⟨y5.wd.heap.size, 0, none⟩ = some (.func (.func 61) #[] #[])) (h8 : y5.wd.heap.size < W.heap.size) => HSt.out.2 g5 0 c5 y5.wd.heap.size (d1 ++ d2) W (hL5.of hW) (by omega) HDX.out h7 ⟨⟨h8⟩⟩ (by omega)
  rw [hl5] at ST
  have hl12 : d1.length + d2.length = r.length + s.length := by rw [← List.length_append, hl5]
  rw [hl12]
  clear hgr5 hb5 ho5 HO
  go_wp2_with fail
  go_at_call 62
  refine (ST _ (by (repeat (first | (with_reducible exact SinceOf.refl _) | (with_reducible assumption) | (with_reducible refine SinceOf.alloc ?_ _) | (with_reducible refine SinceOf.drew ?_) | (with_reducible refine SinceOf.drewN ?_ _) | (with_reducible refine SinceOf.later ?_ _) | (with_reducible refine SinceOf.further ?_ _) | (with_reducible refine SinceOf.setCell ?_ (by first | exact Nat.le_refl _ | (simp; done) | omega | (simp; omega)) _)))) (by simp [go_sem]) (by simp)).mono ?_
  rintro e w6 ⟨rfl, D, hL6, hRT, hgr6⟩
  obtain ⟨y6, rfl⟩ : SinceOf x4.wd w6 := SinceOf.grown (by (repeat (first | (with_reducible exact SinceOf.refl _) | (with_reducible assumption) | (with_reducible refine SinceOf.alloc ?_ _) | (with_reducible refine SinceOf.drew ?_) | (with_reducible refine SinceOf.drewN ?_ _) | (with_reducible refine SinceOf.later ?_ _) | (with_reducible refine SinceOf.further ?_ _) | (with_reducible refine SinceOf.setCell ?_ (by first | exact Nat.le_refl _ | (simp; done) | omega | (simp; omega)) _)))) hgr6 (fun q hq => by cases hq; exact hg5)
  have hr1 := HB.out.1.of (w' := y6.wd) (by (repeat (first | (with_reducible exact SinceOf.refl _) | (with_reducible assumption) | (with_reducible refine SinceOf.alloc ?_ _) | (with_reducible refine SinceOf.drew ?_) | (with_reducible refine SinceOf.drewN ?_ _) | (with_reducible refine SinceOf.later ?_ _) | (with_reducible refine SinceOf.further ?_ _) | (with_reducible refine SinceOf.setCell ?_ (by first | exact Nat.le_refl _ | (simp; done) | omega | (simp; omega)) _))))
  have hr2 := HB.out.2.1.of (w' := y6.wd) (by (repeat (first | (with_reducible exact SinceOf.refl _) | (with_reducible assumption) | (with_reducible refine SinceOf.alloc ?_ _) | (with_reducible refine SinceOf.drew ?_) | (with_reducible refine SinceOf.drewN ?_ _) | (with_reducible refine SinceOf.later ?_ _) | (with_reducible refine SinceOf.further ?_ _) | (with_reducible refine SinceOf.setCell ?_ (by first | exact Nat.le_refl _ | (simp; done) | omega | (simp; omega)) _))))
  have lr1 := HB.out.2.2.1
  have lr2 := HB.out.2.2.2.1
  obtain ⟨ga, oa, rfl, hra⟩ := hr1.at_ (by omega)
  obtain ⟨gb, ob, rfl, hrb⟩ := hr2.at_ (by omega)
  have hOa := hra.there
  have hOb := hrb.there
  have a0 := hra.v0 0 (by omega)
  have a1 := hra.v1 0 (by omega)
  have b0 := hrb.v0 0 (by omega)
  have b1 := hrb.v1 0 (by omega)
  have ea : rr[0]'(by omega) = at0 r k := by rw [← at0_eq (by omega)]; exact HB.out.2.2.2.2.1
  have eb : ss[0]'(by omega) = at0 s m := by rw [← at0_eq (by omega)]; exact HB.out.2.2.2.2.2
  rw [ea] at a0 a1
  rw [eb] at b0 b1
  simp only [Nat.zero_mul, Nat.add_zero] at a0 a1 b0 b1
  have hq0 : addW (at0 r k) (at0 s m) = (wadd (at0 r k).1 (at0 s m).1, wadd (at0 r k).2 (at0 s m).2) := rfl
  have AD := add_any (at0 r k).1 (at0 r k).2 (at0 s m).1 (at0 s m).2
  have hl6 : D.length = r.length + s.length := by rw [HSt.out.1 _ _ hRT, hl5]
  obtain ⟨P, hP⟩ : ∃ P, P = addW (at0 r k) (at0 s m) := ⟨_, rfl⟩
  rw [← hP] at hq0
  have hres : SumRes R r s (sumOut P D) := by
    refine ⟨k, m, D, hk, HM.out.1, hm, HM.out.2, ?_, ?_⟩
    · rw [← HRS.out.1, ← HRS.out.2, ← HDD.out.1, ← HDD.out.2]; exact hRT
    · rw [← hP]
  have HZ := Lib.hid (And.intro hres (And.intro hL6 hq0))
  have hr0 : (0 : Int) < (r.length : Int) := by omega
  have hs0 : (0 : Int) < (s.length : Int) := by omega
  clear hres hL6 hq0 hr1 hr2 hra hrb ea eb HB HM HDD HRS ST hgr6 hL5 hP hRT HSt HN hl12 hl5 HDX
  generalize at0 r k = pa at *
  generalize at0 s m = pb at *
  obtain ⟨ax, ay⟩ := pa
  obtain ⟨bx, by_⟩ := pb
  simp only at a0 a1 b0 b1 AD
  have g5lt : g5 < y6.wd.heap.size := by have := HZ.out.2.1.row.there.elim fun q => q.lt; exact this
  have hr0n : 0 < r.length := by omega
  have hs0n : 0 < s.length := by omega
  go_upto_region 7 with fail
  go_cut [8] (fun s8 wx => ∃ b8 : Nat, s8 = .pointer (some ⟨b8, 0, none⟩) ∧ VarV wx b8 P ∧ y6.wd.heap.size ≤ b8 ∧ SinceOf y6.wd wx)
  case first =>
    go_region_held3 (fun w' => w'.cell? ⟨ga, oa, none⟩ = some (.int .i64 ax) ∧ w'.cell? ⟨ga, oa + 1, none⟩ = some (.int .i64 ay) ∧ w'.cell? ⟨gb, ob, none⟩ = some (.int .i64 bx) ∧ w'.cell? ⟨gb, ob + 1, none⟩ = some (.int .i64 by_)) ((simp [go_sem, *]))
      ((go_at_call 41; (with_reducible refine (AD _).calls.mono ?_); rintro e _ ⟨rfl, y1, rfl⟩; have sz_y1 := y1.size; (try simp only [World.size_alloc, World.size_setCell, World.size_drew] at sz_y1); (try (have na_y1_0 : ¬ y6.wd.heap.size = y1.wd.heap.size := by omega)); (try (have nb_y1_0 : ¬ y1.wd.heap.size = y6.wd.heap.size := by omega))))
    all_goals
      go_wp2_with fail
      go_meet
      rw [HZ.out.2.2]
      refine ⟨_, rfl, ?_, ?_, by (repeat (first | (with_reducible exact SinceOf.refl _) | (with_reducible assumption) | (with_reducible refine SinceOf.alloc ?_ _) | (with_reducible refine SinceOf.drew ?_) | (with_reducible refine SinceOf.drewN ?_ _) | (with_reducible refine SinceOf.later ?_ _) | (with_reducible refine SinceOf.further ?_ _) | (with_reducible refine SinceOf.setCell ?_ (by first | exact Nat.le_refl _ | (simp; done) | omega | (simp; omega)) _)))⟩
      · exact ⟨by simp [go_sem, *], by simp [go_sem, *], by simp [go_sem, *], by simp [go_sem, *], by (simp only [World.size_alloc, World.size_setCell, World.size_drew]; omega)⟩
      · first | omega | (simp; done) | (have := y1.size; simp at this ⊢; omega)
  case rest =>
    obtain ⟨b8, rfl, v8, hb8, ⟨z, rfl⟩⟩ := hcut
    have hb8z := v8.lt
    clear a0 a1 b0 b1 AD hOa hOb hr0 hs0 hr0n hs0n
    go_wp2_with fail
    go_loopg [9, 41] (r.length + s.length) (fun gas s9 s41 wr => ∃ (kk : Nat) (A9 : Option Addr) (c9 : Nat), kk ≤ r.length + s.length ∧ r.length + s.length - kk ≤ gas ∧ s9 = .slice A9 (outK P D kk).length c9 ∧ s41 = .int .i64 kk ∧ OwnVecs z.wd.heap.size wr A9 c9 (outK P D kk) ∧ VarV wr b8 (atK P D kk) ∧ SinceOf y6.wd wr ∧ z.wd.heap.size ≤ wr.heap.size)
    case atStart => exact ⟨0, none, 0, by omega, by omega, rfl, by go_num, Owns.nil _ _ _ _ _, v8, by (repeat (first | (with_reducible exact SinceOf.refl _) | (with_reducible assumption) | (with_reducible refine SinceOf.alloc ?_ _) | (with_reducible refine SinceOf.drew ?_) | (with_reducible refine SinceOf.drewN ?_ _) | (with_reducible refine SinceOf.later ?_ _) | (with_reducible refine SinceOf.further ?_ _) | (with_reducible refine SinceOf.setCell ?_ (by first | exact Nat.le_refl _ | (simp; done) | omega | (simp; omega)) _))), Nat.le_refl _⟩
    case round =>
      obtain ⟨kk, A9, c9, hk9, hgas, rfl, rfl, ho9, v9, ⟨u, rfl⟩, hzu⟩ := hrel
      have hL7 := HZ.out.2.1.of (w' := u.wd) (by (repeat (first | (with_reducible exact SinceOf.refl _) | (with_reducible assumption) | (with_reducible refine SinceOf.alloc ?_ _) | (with_reducible refine SinceOf.drew ?_) | (with_reducible refine SinceOf.drewN ?_ _) | (with_reducible refine SinceOf.later ?_ _) | (with_reducible refine SinceOf.further ?_ _) | (with_reducible refine SinceOf.setCell ?_ (by first | exact Nat.le_refl _ | (simp; done) | omega | (simp; omega)) _))))
      by_cases hlt : kk < r.length + s.length
      · have hg5o : Nonempty (Old u.wd g5) := hL7.row.there
        have e0 := hL7.row.v0 kk (by omega)
        have e1 := hL7.row.v1 kk (by omega)
        have ed : at0 D kk = D[kk]'(by omega) := at0_eq (by omega)
        rw [← ed] at e0 e1
        simp only [Nat.zero_add] at e0 e1
        have hou : outK P D (kk + 1) = if newB D kk then outK P D kk ++ [atK P D kk] else outK P D kk := rfl
        have hat : atK P D (kk + 1) = (wadd (atK P D kk).1 (at0 D kk).1, wadd (atK P D kk).2 (at0 D kk).2) := rfl
        have hlo := outK_len P D kk
        have AD := add_any (atK P D kk).1 (atK P D kk).2 (at0 D kk).1 (at0 D kk).2
        have t0 := v9.c0
        have t1 := v9.c1
        have tf0 := v9.f0
        have tf1 := v9.f1
        have o8 : Nonempty (Old u.wd b8) := ⟨⟨v9.lt⟩⟩
        have hne8 : some b8 ≠ blockOf A9 := fun e => by have := (ho9.below _ e.symm).1; omega
        have hneu : some u.wd.heap.size ≠ blockOf A9 := fun e => by have := (ho9.below _ e.symm).2; omega
        have hprev : kk ≠ 0 → (u.wd.cell? ⟨g5, (kk - 1) * 2, none⟩ = some (.int .i64 (at0 D (kk - 1)).1) ∧ u.wd.cell? ⟨g5, (kk - 1) * 2 + 1, none⟩ = some (.int .i64 (at0 D (kk - 1)).2)) := fun k0 => by
          have f0 := hL7.row.v0 (kk - 1) (by omega)
          have f1 := hL7.row.v1 (kk - 1) (by omega)
          rw [← at0_eq (by omega)] at f0 f1
          simp only [Nat.zero_add] at f0 f1
          exact ⟨f0, f1⟩
        have hnew : newB D kk = (kk == 0 || crossP (at0 D (kk - 1)) (at0 D kk) != 0) := rfl
        obtain ⟨q, hq⟩ : ∃ q, q = at0 D kk := ⟨_, rfl⟩
        obtain ⟨qp, hqp⟩ : ∃ qp, qp = at0 D (kk - 1) := ⟨_, rfl⟩
        obtain ⟨T, hT⟩ : ∃ T, T = atK P D kk := ⟨_, rfl⟩
        obtain ⟨L, hL⟩ : ∃ L, L = outK P D kk := ⟨_, rfl⟩
        rw [← hq] at e0 e1 hat AD hnew
        rw [← hqp] at hnew hprev
        rw [← hT] at t0 t1 hat AD v9 hou
        rw [← hL] at hlo hou ho9
        rw [← hL]
        obtain ⟨nb, hnb⟩ : ∃ nb, nb = newB D kk := ⟨_, rfl⟩
        rw [← hnb] at hnew hou
        have HW := Lib.hid (And.intro ho9 (And.intro v9 (And.intro hou hat)))
        clear ho9 v9 hou hat ed hq hqp hT hL hnb hL7
        obtain ⟨qx, qy⟩ := q
        obtain ⟨rx, ry⟩ := qp
        obtain ⟨tx, ty⟩ := T
        simp only at e0 e1 t0 t1 AD hprev
        go_upto_region 12 with fail
        go_cut [57] (fun s57 wx => s57 = .bool nb ∧ LaterOf (u.wd.alloc (.cells #[.int .i64 qx, .int .i64 qy] 24)) wx)
        case first =>
          by_cases k0 : kk = 0
          · have g0 : ((kk : Int) == 0) = true := by simp [k0]
            have hn1 : nb = true := by rw [hnew, k0]; rfl
            have HN1 := Lib.hid hn1
            clear hprev hnew AD hn1 k0
            go_big_region
            go_wp2_with fail
            go_meet
            exact ⟨by rw [HN1.out], by (repeat (first | (with_reducible exact LaterOf.refl _) | (with_reducible refine LaterOf.alloc ?_ _) | (with_reducible refine LaterOf.drew ?_) | (with_reducible refine LaterOf.drewN ?_ _) | (with_reducible refine LaterOf.later ?_ _) | (with_reducible refine LaterOf.setCell ?_ (by first | exact Nat.le_refl _ | (simp; done) | omega | (simp; omega)) _)))⟩
          · have g0 : ((kk : Int) == 0) = false := by simp [k0]
            have hn1 : nb = (crossI rx ry qx qy != 0) := by rw [hnew]; simp [k0, crossP]
            obtain ⟨f0, f1⟩ := hprev k0
            have C := cross_any rx ry qx qy
            have w1 : IntKind.i64.wrap ((kk : Int) - 1) = (kk : Int) - 1 := IntWalk.i64_in _ (by omega)
            obtain ⟨kp, hkp⟩ : ∃ kp : Nat, kp = kk - 1 := ⟨_, rfl⟩
            have w2 : (kk : Int) - 1 = (kp : Int) := by omega
            rw [← hkp] at f0 f1
            rw [w2] at w1
            have kpl : kp < r.length + s.length := by omega
            have kpi : (kp : Int) < (r.length : Int) + (s.length : Int) := by omega
            have kpi2 : (kp : Int) < ((r.length + s.length : Nat) : Int) := by omega
            have HN1 := Lib.hid hn1
            clear hprev hnew AD hn1 hkp
            generalize crossI rx ry qx qy = cr at *
            go_region_held3 (fun w' => w'.cell? ⟨u.wd.heap.size, 0, none⟩ = some (.int .i64 qx) ∧ w'.cell? ⟨u.wd.heap.size, 1, none⟩ = some (.int .i64 qy) ∧ w'.cell? ⟨g5, kp * 2, none⟩ = some (.int .i64 rx) ∧ w'.cell? ⟨g5, kp * 2 + 1, none⟩ = some (.int .i64 ry)) ((simp [go_sem, *]))
              ((go_at_call 54; (with_reducible refine (C _).calls.mono ?_); rintro e _ ⟨rfl, y1, rfl⟩))
            all_goals
              go_wp2_with fail
              go_meet
              exact ⟨by rw [HN1.out], by (repeat (first | (with_reducible exact LaterOf.refl _) | (with_reducible refine LaterOf.alloc ?_ _) | (with_reducible refine LaterOf.drew ?_) | (with_reducible refine LaterOf.drewN ?_ _) | (with_reducible refine LaterOf.later ?_ _) | (with_reducible refine LaterOf.setCell ?_ (by first | exact Nat.le_refl _ | (simp; done) | omega | (simp; omega)) _)))⟩
        case rest =>
          obtain ⟨rfl, ⟨v, rfl⟩⟩ := hcut
          have hus := v.size
          simp only [World.size_alloc] at hus
          have q0 : v.wd.cell? ⟨u.wd.heap.size, 0, none⟩ = some (.int .i64 qx) := by simp [go_sem]
          have q1 : v.wd.cell? ⟨u.wd.heap.size, 1, none⟩ = some (.int .i64 qy) := by simp [go_sem]
          have v8b : VarV v.wd b8 (tx, ty) := HW.out.2.1.of (by (repeat (first | (with_reducible exact SinceOf.refl _) | (with_reducible assumption) | (with_reducible refine SinceOf.alloc ?_ _) | (with_reducible refine SinceOf.drew ?_) | (with_reducible refine SinceOf.drewN ?_ _) | (with_reducible refine SinceOf.later ?_ _) | (with_reducible refine SinceOf.further ?_ _) | (with_reducible refine SinceOf.setCell ?_ (by first | exact Nat.le_refl _ | (simp; done) | omega | (simp; omega)) _))))
          have ho9v : OwnVecs z.wd.heap.size v.wd A9 c9 L := HW.out.1.of (by (repeat (first | (with_reducible exact SinceOf.refl _) | (with_reducible assumption) | (with_reducible refine SinceOf.alloc ?_ _) | (with_reducible refine SinceOf.drew ?_) | (with_reducible refine SinceOf.drewN ?_ _) | (with_reducible refine SinceOf.later ?_ _) | (with_reducible refine SinceOf.further ?_ _) | (with_reducible refine SinceOf.setCell ?_ (by first | exact Nat.le_refl _ | (simp; done) | omega | (simp; omega)) _))))
          clear hprev hnew t0 t1 tf0 tf1 o8
          cases hb : nb
          · have hou2 : outK P D (kk + 1) = L := by rw [HW.out.2.2.1, hb]; rfl
            have HV := Lib.hid (And.intro ho9v (And.intro v8b hou2))
            have t0 := v8b.c0
            have t1 := v8b.c1
            have tf0 := v8b.f0
            have tf1 := v8b.f1
            have o8 : Nonempty (Old v.wd b8) := ⟨⟨v8b.lt⟩⟩
            have ou : Nonempty (Old v.wd u.wd.heap.size) := ⟨⟨by omega⟩⟩
            simp only at t0 t1
            clear ho9v v8b hou2
            go_wp2_with fail
            refine (AD _).calls.mono ?_
            rintro e _ ⟨rfl, y2, rfl⟩
            go_wp2_with fail
            go_roundg (r.length + s.length - (kk + 1))
            case measure => omega
            case rel =>
              refine ⟨kk + 1, A9, c9, hlt, Nat.le_refl _, (by rw [HV.out.2.2]), by go_num, ?_, ?_, ?_, ?_⟩
              · rw [HV.out.2.2]
                exact (HV.out.1.of (w' := y2.wd) (by (repeat (first | (with_reducible exact SinceOf.refl _) | (with_reducible assumption) | (with_reducible refine SinceOf.alloc ?_ _) | (with_reducible refine SinceOf.drew ?_) | (with_reducible refine SinceOf.drewN ?_ _) | (with_reducible refine SinceOf.later ?_ _) | (with_reducible refine SinceOf.further ?_ _) | (with_reducible refine SinceOf.setCell ?_ (by first | exact Nat.le_refl _ | (simp; done) | omega | (simp; omega)) _))))).kept (RowKit2.set2 y2.wd b8 _ _) (.inr hne8.symm)
              · rw [HW.out.2.2.2]
                exact (HV.out.2.1.of (W' := y2.wd) (by (repeat (first | (with_reducible exact SinceOf.refl _) | (with_reducible assumption) | (with_reducible refine SinceOf.alloc ?_ _) | (with_reducible refine SinceOf.drew ?_) | (with_reducible refine SinceOf.drewN ?_ _) | (with_reducible refine SinceOf.later ?_ _) | (with_reducible refine SinceOf.further ?_ _) | (with_reducible refine SinceOf.setCell ?_ (by first | exact Nat.le_refl _ | (simp; done) | omega | (simp; omega)) _))))).put _ _
              · exact SinceOf.setCell (SinceOf.setCell (by (repeat (first | (with_reducible exact SinceOf.refl _) | (with_reducible assumption) | (with_reducible refine SinceOf.alloc ?_ _) | (with_reducible refine SinceOf.drew ?_) | (with_reducible refine SinceOf.drewN ?_ _) | (with_reducible refine SinceOf.later ?_ _) | (with_reducible refine SinceOf.further ?_ _) | (with_reducible refine SinceOf.setCell ?_ (by first | exact Nat.le_refl _ | (simp; done) | omega | (simp; omega)) _)))) hb8 _) hb8 _
              · have := y2.size
                simp only [World.size_setCell]
                omega
          · have hou2 : outK P D (kk + 1) = L ++ [(tx, ty)] := by rw [HW.out.2.2.1, hb]; rfl
            have HV := Lib.hid (And.intro ho9v (And.intro v8b hou2))
            have t0 := v8b.c0
            have t1 := v8b.c1
            have o8 : Nonempty (Old v.wd b8) := ⟨⟨v8b.lt⟩⟩
            have ou : Nonempty (Old v.wd u.wd.heap.size) := ⟨⟨by omega⟩⟩
            simp only at t0 t1
            have hL640 : L.length ≤ 320 := by omega
            clear ho9v v8b hou2
            go_wp2_with (at_builtin; refine wpList_append_row rfl (.tmp 58) (.tmp 60) 41 rfl encV_len (by omega) encV_one i0 _ 16 Tryz.underlying41 HI.out.1 HI.out.2.1 HI.out.2.2.1 HI.out.2.2.2 rfl (l := L) (A := A9) (c := c9) (base := z.wd.heap.size) rfl (HV.out.1.of (by (repeat (first | (with_reducible exact SinceOf.refl _) | (with_reducible assumption) | (with_reducible refine SinceOf.alloc ?_ _) | (with_reducible refine SinceOf.drew ?_) | (with_reducible refine SinceOf.drewN ?_ _) | (with_reducible refine SinceOf.later ?_ _) | (with_reducible refine SinceOf.further ?_ _) | (with_reducible refine SinceOf.setCell ?_ (by first | exact Nat.le_refl _ | (simp; done) | omega | (simp; omega)) _))))) (m := [(tx, ty)]) rfl (isRow_atV _ _ tx ty (by first | rfl | simp)) (by unfold maxLen; simp; omega) (by simp; omega) (by simp only [World.size_alloc]; omega) ?_; intro A10 c10 w10 ho10 hgr10 hb10; have v10 : VarV w10 b8 (tx, ty) := (HV.out.2.1.of (W' := v.wd.alloc (.cells #[.int .i64 tx, .int .i64 ty] 24)) (by (repeat (first | (with_reducible exact SinceOf.refl _) | (with_reducible assumption) | (with_reducible refine SinceOf.alloc ?_ _) | (with_reducible refine SinceOf.drew ?_) | (with_reducible refine SinceOf.drewN ?_ _) | (with_reducible refine SinceOf.later ?_ _) | (with_reducible refine SinceOf.further ?_ _) | (with_reducible refine SinceOf.setCell ?_ (by first | exact Nat.le_refl _ | (simp; done) | omega | (simp; omega)) _))))).keptG hgr10 hne8; have vq : VarV w10 u.wd.heap.size (qx, qy) := ((VarV.new u.wd qx qy 24).of (W' := v.wd.alloc (.cells #[.int .i64 tx, .int .i64 ty] 24)) (by (repeat (first | (with_reducible exact SinceOf.refl _) | (with_reducible assumption) | (with_reducible refine SinceOf.alloc ?_ _) | (with_reducible refine SinceOf.drew ?_) | (with_reducible refine SinceOf.drewN ?_ _) | (with_reducible refine SinceOf.later ?_ _) | (with_reducible refine SinceOf.further ?_ _) | (with_reducible refine SinceOf.setCell ?_ (by first | exact Nat.le_refl _ | (simp; done) | omega | (simp; omega)) _))))).keptG hgr10 hneu; have s0 := v10.c0; have s1 := v10.c1; have sf0 := v10.f0; have sf1 := v10.f1; have n0 := vq.c0; have n1 := vq.c1; have so8 : Nonempty (Old w10 b8) := ⟨⟨v10.lt⟩⟩; have sou : Nonempty (Old w10 u.wd.heap.size) := ⟨⟨vq.lt⟩⟩; simp only at s0 s1 n0 n1)
            refine (AD _).calls.mono ?_
            rintro e _ ⟨rfl, y2, rfl⟩
            have hsz10 := hgr10.size
            have HX := Lib.hid (And.intro ho10 (And.intro v10 (SinceOf.grown (show SinceOf y6.wd (v.wd.alloc (.cells #[.int .i64 tx, .int .i64 ty] 24)) by (repeat (first | (with_reducible exact SinceOf.refl _) | (with_reducible assumption) | (with_reducible refine SinceOf.alloc ?_ _) | (with_reducible refine SinceOf.drew ?_) | (with_reducible refine SinceOf.drewN ?_ _) | (with_reducible refine SinceOf.later ?_ _) | (with_reducible refine SinceOf.further ?_ _) | (with_reducible refine SinceOf.setCell ?_ (by first | exact Nat.le_refl _ | (simp; done) | omega | (simp; omega)) _)))) hgr10 (fun q hq => by have := (HV.out.1.below q hq).1; have := z.size; omega))))
            clear ho10 hgr10 hb10 vq
            go_wp2_with fail
            go_roundg (r.length + s.length - (kk + 1))
            case measure => omega
            case rel =>
              refine ⟨kk + 1, A10, c10, hlt, Nat.le_refl _, (by rw [HV.out.2.2, List.length_append]; rfl), by go_num, ?_, ?_, ?_, ?_⟩
              · rw [HV.out.2.2]
                exact (HX.out.1.of (w' := y2.wd) (by (repeat (first | (with_reducible exact SinceOf.refl _) | (with_reducible assumption) | (with_reducible refine SinceOf.alloc ?_ _) | (with_reducible refine SinceOf.drew ?_) | (with_reducible refine SinceOf.drewN ?_ _) | (with_reducible refine SinceOf.later ?_ _) | (with_reducible refine SinceOf.further ?_ _) | (with_reducible refine SinceOf.setCell ?_ (by first | exact Nat.le_refl _ | (simp; done) | omega | (simp; omega)) _))))).kept (RowKit2.set2 y2.wd b8 _ _) (.inr (fun e => by have := (HX.out.1.below _ e).1; omega))
              · rw [HW.out.2.2.2]
                exact (HX.out.2.1.of (W' := y2.wd) (by (repeat (first | (with_reducible exact SinceOf.refl _) | (with_reducible assumption) | (with_reducible refine SinceOf.alloc ?_ _) | (with_reducible refine SinceOf.drew ?_) | (with_reducible refine SinceOf.drewN ?_ _) | (with_reducible refine SinceOf.later ?_ _) | (with_reducible refine SinceOf.further ?_ _) | (with_reducible refine SinceOf.setCell ?_ (by first | exact Nat.le_refl _ | (simp; done) | omega | (simp; omega)) _))))).put _ _
              · exact SinceOf.setCell (SinceOf.setCell (HX.out.2.2.later y2) hb8 _) hb8 _
              · have := y2.size
                simp only [World.size_setCell, World.size_alloc] at *
                omega
      · have hkk : kk = r.length + s.length := by omega
        have hso : sumOut P D = if (outK P D kk).all inV then (if 160 < (outK P D kk).length then ([], 9) else (outK P D kk, 0)) else ([], 2) := by unfold sumOut; rw [hl6, ← hkk]
        have hlo := outK_len P D kk
        have hcap := ho9.le_cap
        obtain ⟨L, hL⟩ : ∃ L, L = outK P D kk := ⟨_, rfl⟩
        rw [← hL] at hso hlo hcap ho9
        rw [← hL]
        have NR := fun W (hW : SinceOf u.wd W) => near_any A9 c9 L W ((ho9.isRow encV_len).of hW) (by omega)
        have gk : decide ((kk : Int) < (r.length : Int) + (s.length : Int)) = false := decide_eq_false (by omega)
        have HW := Lib.hid (And.intro ho9 (And.intro hso hcap))
        clear ho9 hso hcap hL hL7 v9 hlt
        cases ha : L.all inV
        · rw [ha] at NR
          have HA := Lib.hid ha
          clear ha
          go_wp2_with fail
          refine (NR _ (by (repeat (first | (with_reducible exact SinceOf.refl _) | (with_reducible assumption) | (with_reducible refine SinceOf.alloc ?_ _) | (with_reducible refine SinceOf.drew ?_) | (with_reducible refine SinceOf.drewN ?_ _) | (with_reducible refine SinceOf.later ?_ _) | (with_reducible refine SinceOf.further ?_ _) | (with_reducible refine SinceOf.setCell ?_ (by first | exact Nat.le_refl _ | (simp; done) | omega | (simp; omega)) _))))).calls.mono ?_
          rintro e _ ⟨rfl, y9, rfl⟩
          go_wp2_with fail
          go_returns
          refine ⟨none, 0, sumOut P D, ?_, HZ.out.1, ?_, ?_, (fun b hb => by cases hb), by (repeat (first | (with_reducible exact SinceOf.refl _) | (with_reducible assumption) | (with_reducible refine SinceOf.alloc ?_ _) | (with_reducible refine SinceOf.drew ?_) | (with_reducible refine SinceOf.drewN ?_ _) | (with_reducible refine SinceOf.later ?_ _) | (with_reducible refine SinceOf.further ?_ _) | (with_reducible refine SinceOf.setCell ?_ (by first | exact Nat.le_refl _ | (simp; done) | omega | (simp; omega)) _)))⟩
          · rw [HW.out.2.1, HA.out]; rfl
          · rw [HW.out.2.1, HA.out]; exact IsRow.nil _ _ _
          · rw [HW.out.2.1, HA.out]; exact Nat.le_refl _
        · rw [ha] at NR
          have HA := Lib.hid ha
          clear ha
          by_cases h160 : 160 < L.length
          · have g160 : decide ((160 : Int) < (L.length : Int)) = true := decide_eq_true (by omega)
            have HB2 := Lib.hid h160
            clear h160
            go_wp2_with fail
            refine (NR _ (by (repeat (first | (with_reducible exact SinceOf.refl _) | (with_reducible assumption) | (with_reducible refine SinceOf.alloc ?_ _) | (with_reducible refine SinceOf.drew ?_) | (with_reducible refine SinceOf.drewN ?_ _) | (with_reducible refine SinceOf.later ?_ _) | (with_reducible refine SinceOf.further ?_ _) | (with_reducible refine SinceOf.setCell ?_ (by first | exact Nat.le_refl _ | (simp; done) | omega | (simp; omega)) _))))).calls.mono ?_
            rintro e _ ⟨rfl, y9, rfl⟩
            go_wp2_with fail
            go_returns
            refine ⟨none, 0, sumOut P D, ?_, HZ.out.1, ?_, ?_, (fun b hb => by cases hb), by (repeat (first | (with_reducible exact SinceOf.refl _) | (with_reducible assumption) | (with_reducible refine SinceOf.alloc ?_ _) | (with_reducible refine SinceOf.drew ?_) | (with_reducible refine SinceOf.drewN ?_ _) | (with_reducible refine SinceOf.later ?_ _) | (with_reducible refine SinceOf.further ?_ _) | (with_reducible refine SinceOf.setCell ?_ (by first | exact Nat.le_refl _ | (simp; done) | omega | (simp; omega)) _)))⟩
            · rw [HW.out.2.1, HA.out, if_pos rfl, if_pos HB2.out]; rfl
            · rw [HW.out.2.1, HA.out, if_pos rfl, if_pos HB2.out]; exact IsRow.nil _ _ _
            · rw [HW.out.2.1, HA.out, if_pos rfl, if_pos HB2.out]; exact Nat.le_refl _
          · have g160 : decide ((160 : Int) < (L.length : Int)) = false := decide_eq_false (by omega)
            have HB2 := Lib.hid h160
            clear h160
            go_wp2_with fail
            refine (NR _ (by (repeat (first | (with_reducible exact SinceOf.refl _) | (with_reducible assumption) | (with_reducible refine SinceOf.alloc ?_ _) | (with_reducible refine SinceOf.drew ?_) | (with_reducible refine SinceOf.drewN ?_ _) | (with_reducible refine SinceOf.later ?_ _) | (with_reducible refine SinceOf.further ?_ _) | (with_reducible refine SinceOf.setCell ?_ (by first | exact Nat.le_refl _ | (simp; done) | omega | (simp; omega)) _))))).calls.mono ?_
            rintro e _ ⟨rfl, y9, rfl⟩
            go_wp2_with fail
            go_returns
            refine ⟨A9, c9, sumOut P D, ?_, HZ.out.1, ?_, ?_, (fun b hb => by have := (HW.out.1.below b hb).1; have := x1.size; have := x2.size; have := x3.size; have := x4.size; have := y6.size; have := z.size; omega), by (repeat (first | (with_reducible exact SinceOf.refl _) | (with_reducible assumption) | (with_reducible refine SinceOf.alloc ?_ _) | (with_reducible refine SinceOf.drew ?_) | (with_reducible refine SinceOf.drewN ?_ _) | (with_reducible refine SinceOf.later ?_ _) | (with_reducible refine SinceOf.further ?_ _) | (with_reducible refine SinceOf.setCell ?_ (by first | exact Nat.le_refl _ | (simp; done) | omega | (simp; omega)) _)))⟩
            · rw [HW.out.2.1, HA.out, if_pos rfl, if_neg HB2.out]; rfl
            · rw [HW.out.2.1, HA.out, if_pos rfl, if_neg HB2.out]; exact (HW.out.1.isRow encV_len).of (by (repeat (first | (with_reducible exact SinceOf.refl _) | (with_reducible assumption) | (with_reducible refine SinceOf.alloc ?_ _) | (with_reducible refine SinceOf.drew ?_) | (with_reducible refine SinceOf.drewN ?_ _) | (with_reducible refine SinceOf.later ?_ _) | (with_reducible refine SinceOf.further ?_ _) | (with_reducible refine SinceOf.setCell ?_ (by first | exact Nat.le_refl _ | (simp; done) | omega | (simp; omega)) _))))
            · rw [HW.out.2.1, HA.out, if_pos rfl, if_neg HB2.out]; exact HW.out.2.2
end Go.Proofs.YtpbgimdbhgahkaaGreat
