/- Layer 52: ScheduleParts's walk. -/
import Derived.Test.YtbceogoeoojdbaaSch29
import Derived.Test.YtbceogoeoojdbaaSch28
import Derived.Test.YtbceogoeoojdbaaSch30
namespace Go.Proofs.Ytbceogoeoojdbaa
open Go.RowKit Go.Sort
set_option linter.unusedVariables false
attribute [local go_sem ↓] Go.wp_at_zero Go.wp_at_succ

section
variable {α : Type} {enc : α → List Value} {k : Nat} {w : World} {A : Option Addr} {c : Nat} {l : List α}
theorem IsRow.allocd (h : IsRow enc k w A c l) (o : Obj) : IsRow enc k (w.alloc o) A c l := h.of ((SinceOf.refl _).alloc o)
theorem IsRow.drewd (h : IsRow enc k w A c l) : IsRow enc k w.drew A c l := h.of (SinceOf.refl _).drew
theorem IsRow.drewNd (h : IsRow enc k w A c l) (n : Nat) : IsRow enc k (w.drewN n) A c l := h.of ((SinceOf.refl _).drewN n)
end
theorem jobs52b_any (A : Option Addr) (c : Nat) (L : List JobR) (w : World) (h : IsJobs w A c L) (hll : L.length ≤ 1000000) :
    Calls Try.prog 19 #[.slice A L.length c] w fun e w' => ∃ A' c', e = .returned (.slice A' L.length c') ∧ IsRow encJ 6 w' A' c' L ∧ (∀ b, blockOf A' = some b → w.heap.size ≤ b ∧ b < w'.heap.size) ∧ SinceOf w w' :=
  (jobs_any A c L w h.row hll).mono fun e w' ⟨A', c', he, ho, hs⟩ => ⟨A', c', he, ho.isRow encJ_len, fun b hb => ho.below b hb, hs⟩
theorem own52b_any (s : ShopR) (w : World) (hs : IsShop w s) (hll : s.cals.length ≤ 1000000) :
    Calls Try.prog 18 #[shopV s] w fun e w' => ∃ A' c', e = .returned (shopV (withCals s A' c')) ∧ IsRow encC 3 w' A' c' s.cals ∧ (∀ b, blockOf A' = some b → w.heap.size ≤ b ∧ b < w'.heap.size) ∧ SinceOf w w' :=
  (own52_any s w hs hll).mono fun e w' ⟨A', c', he, ho, hb, hs⟩ => ⟨A', c', he, ho.cals.row, hb, hs⟩
theorem shop_at {w W : World} {s : ShopR} {A : Option Addr} {c : Nat} (hs : IsShop w s) (hr : IsRow encC 3 W A c s.cals) (hW : SinceOf w W) : IsShop W (withCals s A c) := ⟨⟨hr, fun x hx => (hs.cals.all x hx).of hW, hs.cals.len⟩, hs.rows.of hW⟩
theorem jobs_at {w W : World} {L : List JobR} {A B : Option Addr} {c d : Nat} (hs : IsJobs w A c L) (hr : IsRow encJ 6 W B d L) (hW : SinceOf w W) : IsJobs W B d L := ⟨hr, fun x hx => ⟨(hs.all x hx).1.of hW, (hs.all x hx).2⟩, hs.len⟩
theorem sep_symm {a b : Option Nat} (h : a = none ∨ a ≠ b) : b = none ∨ b ≠ a := by
  rcases h with rfl | h
  · cases b <;> simp
  · exact .inr fun e => h e.symm
theorem pair_of {P Q : Prop} (hp : P) (hq : P → Q) : P ∧ Q := ⟨hp, hq hp⟩
theorem few_lens {s : ShopR} {L : List JobR} (h : smallB s L = true) : s.cals.length ≤ 3 ∧ L.length ≤ 8 := by
  unfold smallB fewP at h
  simp only [Bool.and_eq_true, decide_eq_true_eq] at h
  omega
theorem near_len {l : List SlotR} (h : nearL l = true) : l.length ≤ 10 := by
  unfold nearL at h
  simp only [Bool.and_eq_true, decide_eq_true_eq] at h
  omega
/-- The shop's own block. -/
structure ShopOn (w : World) (g : Nat) (A : Option Addr) (n c : Nat) (B : Option Addr) (m d : Nat) (most : Int) : Prop where
  c0 : w.cell? ⟨g, 0, none⟩ = some (.slice A n c)
  c1 : w.cell? ⟨g, 1, none⟩ = some (.slice B m d)
  c2 : w.cell? ⟨g, 2, none⟩ = some (.int .i64 most)
  f2 : w.frozen? ⟨g, 2, none⟩ = false
  there : Nonempty (Old w g)
set_option maxRecDepth 100000 in
set_option maxHeartbeats 8000000 in
theorem parts_walk (aw : ∀ w : World, Yields Try.prog 15 #[] w (.bool true)) (s : ShopR) (A : Option Addr) (c : Nat) (L : List JobR) (B : Option Addr) (d : Nat) (l : List SlotR) (u v : Int) (hu : 0 ≤ u ∧ u ≤ 255) (hv : 0 ≤ v ∧ v ≤ 255) (w : World) (hs : IsShop w s) (hL : IsJobs w A c L) (hl : IsSlots w B d l) (hll : l.length < 4611686018427387904) (hcap : l.length ≤ d) :
    Yields Try.prog 3 #[probV s A L.length c, .slice B l.length d, .agg #[.int .u8 u, .int .u8 v]] w (.bool true) := by
  apply Yields.ret
  have SM := fun W (hW : SinceOf w W) => small_any s A c L W (hs.of hW) (hL.of hW)
  have NE := fun W (hW : SinceOf w W) => near_any B d l W (hl.of hW) hll
  have H := Lib.hid (And.intro hs (And.intro hL hl))
  clear hs hL hl
  cases hsm : smallB s L
  · rw [hsm] at SM
    clear hsm
    go_enter Try.func3, Try.ntmps3
    go_wp2_with fail
    refine (aw _).calls.mono ?_
    rintro e _ ⟨rfl, x1, rfl⟩
    go_wp2_with fail
    refine (SM _ (by (repeat (first | (with_reducible exact SinceOf.refl _) | (with_reducible assumption) | (with_reducible refine SinceOf.alloc ?_ _) | (with_reducible refine SinceOf.drew ?_) | (with_reducible refine SinceOf.drewN ?_ _) | (with_reducible refine SinceOf.later ?_ _) | (with_reducible refine SinceOf.further ?_ _) | (with_reducible refine SinceOf.setCell ?_ (by first | exact Nat.le_refl _ | (simp; done) | omega | (simp; omega)) _))))).calls.mono ?_
    rintro e _ ⟨rfl, x2, rfl⟩
    go_wp2_with fail
    go_returns
    exact ⟨rfl, by (repeat (first | (with_reducible exact SinceOf.refl _) | (with_reducible assumption) | (with_reducible refine SinceOf.alloc ?_ _) | (with_reducible refine SinceOf.drew ?_) | (with_reducible refine SinceOf.drewN ?_ _) | (with_reducible refine SinceOf.later ?_ _) | (with_reducible refine SinceOf.further ?_ _) | (with_reducible refine SinceOf.setCell ?_ (by first | exact Nat.le_refl _ | (simp; done) | omega | (simp; omega)) _)))⟩
  · have hlens := few_lens hsm
    rw [hsm] at SM
    clear hsm
    cases hne : nearL l
    · rw [hne] at NE
      clear hne
      go_enter Try.func3, Try.ntmps3
      go_wp2_with fail
      refine (aw _).calls.mono ?_
      rintro e _ ⟨rfl, x1, rfl⟩
      go_wp2_with fail
      refine (SM _ (by (repeat (first | (with_reducible exact SinceOf.refl _) | (with_reducible assumption) | (with_reducible refine SinceOf.alloc ?_ _) | (with_reducible refine SinceOf.drew ?_) | (with_reducible refine SinceOf.drewN ?_ _) | (with_reducible refine SinceOf.later ?_ _) | (with_reducible refine SinceOf.further ?_ _) | (with_reducible refine SinceOf.setCell ?_ (by first | exact Nat.le_refl _ | (simp; done) | omega | (simp; omega)) _))))).calls.mono ?_
      rintro e _ ⟨rfl, x2, rfl⟩
      go_wp2_with fail
      refine (NE _ (by (repeat (first | (with_reducible exact SinceOf.refl _) | (with_reducible assumption) | (with_reducible refine SinceOf.alloc ?_ _) | (with_reducible refine SinceOf.drew ?_) | (with_reducible refine SinceOf.drewN ?_ _) | (with_reducible refine SinceOf.later ?_ _) | (with_reducible refine SinceOf.further ?_ _) | (with_reducible refine SinceOf.setCell ?_ (by first | exact Nat.le_refl _ | (simp; done) | omega | (simp; omega)) _))))).calls.mono ?_
      rintro e _ ⟨rfl, x3, rfl⟩
      go_wp2_with fail
      go_returns
      exact ⟨rfl, by (repeat (first | (with_reducible exact SinceOf.refl _) | (with_reducible assumption) | (with_reducible refine SinceOf.alloc ?_ _) | (with_reducible refine SinceOf.drew ?_) | (with_reducible refine SinceOf.drewN ?_ _) | (with_reducible refine SinceOf.later ?_ _) | (with_reducible refine SinceOf.further ?_ _) | (with_reducible refine SinceOf.setCell ?_ (by first | exact Nat.le_refl _ | (simp; done) | omega | (simp; omega)) _)))⟩
    · have hlen := near_len hne
      rw [hne] at NE
      clear hne
      go_enter Try.func3, Try.ntmps3
      go_wp2_with fail
      refine (aw _).calls.mono ?_
      rintro e _ ⟨rfl, x1, rfl⟩
      go_wp2_with fail
      refine (SM _ (by (repeat (first | (with_reducible exact SinceOf.refl _) | (with_reducible assumption) | (with_reducible refine SinceOf.alloc ?_ _) | (with_reducible refine SinceOf.drew ?_) | (with_reducible refine SinceOf.drewN ?_ _) | (with_reducible refine SinceOf.later ?_ _) | (with_reducible refine SinceOf.further ?_ _) | (with_reducible refine SinceOf.setCell ?_ (by first | exact Nat.le_refl _ | (simp; done) | omega | (simp; omega)) _))))).calls.mono ?_
      rintro e _ ⟨rfl, x2, rfl⟩
      go_wp2_with fail
      refine (NE _ (by (repeat (first | (with_reducible exact SinceOf.refl _) | (with_reducible assumption) | (with_reducible refine SinceOf.alloc ?_ _) | (with_reducible refine SinceOf.drew ?_) | (with_reducible refine SinceOf.drewN ?_ _) | (with_reducible refine SinceOf.later ?_ _) | (with_reducible refine SinceOf.further ?_ _) | (with_reducible refine SinceOf.setCell ?_ (by first | exact Nat.le_refl _ | (simp; done) | omega | (simp; omega)) _))))).calls.mono ?_
      rintro e _ ⟨rfl, x3, rfl⟩
      clear SM NE aw
      go_upto_region 5 with fail
      go_cut [7, 8] (fun s7 s8 wx => ∃ (g : Nat) (cA : Option Addr) (cc : Nat) (jA : Option Addr) (jc : Nat), s7 = .pointer (some ⟨g, 0, none⟩) ∧ s8 = .slice jA L.length jc ∧ ShopOn wx g cA s.cals.length cc s.B s.rows.length s.d s.most ∧ ((∀ b, blockOf cA = some b → b ≠ g) ∧ IsRow encC 3 wx cA cc s.cals) ∧ ((∀ b, blockOf jA = some b → b ≠ g) ∧ IsRow encJ 6 wx jA jc L) ∧ x3.wd.heap.size ≤ g ∧ SinceOf x3.wd wx)
      case first =>
        go_region_held3 (fun w' => w'.cell? ⟨w.heap.size, 0, none⟩ = some (.slice s.A s.cals.length s.c) ∧ w'.cell? ⟨w.heap.size, 1, none⟩ = some (.slice s.B s.rows.length s.d) ∧ w'.cell? ⟨w.heap.size, 2, none⟩ = some (.int .i64 s.most) ∧ w'.cell? ⟨w.heap.size, 3, none⟩ = some (.slice A L.length c)) ((simp [go_sem, *]))
          (first
            | (go_at_call 18; refine (own52b_any s _ (H.out.1.of (by (repeat (first | (with_reducible exact SinceOf.refl _) | (with_reducible assumption) | (with_reducible refine SinceOf.alloc ?_ _) | (with_reducible refine SinceOf.drew ?_) | (with_reducible refine SinceOf.drewN ?_ _) | (with_reducible refine SinceOf.later ?_ _) | (with_reducible refine SinceOf.further ?_ _) | (with_reducible refine SinceOf.setCell ?_ (by first | exact Nat.le_refl _ | (simp; done) | omega | (simp; omega)) _))))) (by omega)).mono ?_; rintro e _ ⟨cA, cc, rfl, hrc, hbc, ⟨y1, rfl⟩⟩)
            | (go_at_call 19; refine (jobs52b_any A c L _ (H.out.2.1.of (by (repeat (first | (with_reducible exact SinceOf.refl _) | (with_reducible assumption) | (with_reducible refine SinceOf.alloc ?_ _) | (with_reducible refine SinceOf.drew ?_) | (with_reducible refine SinceOf.drewN ?_ _) | (with_reducible refine SinceOf.later ?_ _) | (with_reducible refine SinceOf.further ?_ _) | (with_reducible refine SinceOf.setCell ?_ (by first | exact Nat.le_refl _ | (simp; done) | omega | (simp; omega)) _))))) (by omega)).mono ?_; rintro e _ ⟨jA, jc, rfl, hrj, hbj, ⟨y2, rfl⟩⟩))
        all_goals go_wp2_with fail
        all_goals go_meet
        all_goals
          have e1 := y1.size
          have e2 := y2.size
          (try simp at e1)
          (try simp at e2)
          refine ⟨_, cA, cc, jA, jc, rfl, rfl, ⟨by simp [go_sem, withCals], by simp [go_sem, withCals], by simp [go_sem, withCals], by simp [go_sem], inferInstance⟩, pair_of (fun b hb => ?_) (fun ne => ?_), pair_of (fun b hb => ?_) (fun ne => ?_), ?_, by (repeat (first | (with_reducible exact SinceOf.refl _) | (with_reducible assumption) | (with_reducible refine SinceOf.alloc ?_ _) | (with_reducible refine SinceOf.drew ?_) | (with_reducible refine SinceOf.drewN ?_ _) | (with_reducible refine SinceOf.later ?_ _) | (with_reducible refine SinceOf.further ?_ _) | (with_reducible refine SinceOf.setCell ?_ (by first | exact Nat.le_refl _ | (simp; done) | omega | (simp; omega)) _)))⟩
          · have h1 := hbc b hb
            (try simp at h1)
            first | omega | (simp; omega)
          · (repeat (first | (with_reducible exact hrc) | (with_reducible refine IsRow.setOther ?_ _ _ _ ne) | (with_reducible refine IsRow.since ?_ _) | (with_reducible refine IsRow.later ?_ _) | (with_reducible refine IsRow.allocd ?_ _) | (with_reducible refine IsRow.drewd ?_) | (with_reducible refine IsRow.drewNd ?_ _)))
          · have h1 := hbj b hb
            (try simp at h1)
            first | omega | (simp; omega)
          · (repeat (first | (with_reducible exact hrj) | (with_reducible refine IsRow.setOther ?_ _ _ _ ne) | (with_reducible refine IsRow.since ?_ _) | (with_reducible refine IsRow.later ?_ _) | (with_reducible refine IsRow.allocd ?_ _) | (with_reducible refine IsRow.drewd ?_) | (with_reducible refine IsRow.drewNd ?_ _)))
          · first | omega | (simp; done) | (simp; omega)
      case rest =>
        obtain ⟨g, cA, cc, jA, jc, rfl, rfl, ⟨g0, g1, g2, gf, hOg⟩, ⟨hnc, hrc⟩, ⟨hnj, hrj⟩, hg, ⟨y, rfl⟩⟩ := hcut
        have HR := Lib.hid (And.intro hrc (And.intro hrj (And.intro hnc hnj)))
        clear hrc hrj hnc hnj
        go_wp2_with fail
        go_region_held3 (fun w' => w'.cell? ⟨g, 0, none⟩ = some (.slice cA s.cals.length cc) ∧ w'.cell? ⟨g, 1, none⟩ = some (.slice s.B s.rows.length s.d) ∧ w'.cell? ⟨g, 2, none⟩ = some (.int .i64 s.most)) ((simp [go_sem, *]))
          (first
            | (go_at_call 21; refine (slots_any B d l _ (H.out.2.2.of (by (repeat (first | (with_reducible exact SinceOf.refl _) | (with_reducible assumption) | (with_reducible refine SinceOf.alloc ?_ _) | (with_reducible refine SinceOf.drew ?_) | (with_reducible refine SinceOf.drewN ?_ _) | (with_reducible refine SinceOf.later ?_ _) | (with_reducible refine SinceOf.further ?_ _) | (with_reducible refine SinceOf.setCell ?_ (by first | exact Nat.le_refl _ | (simp; done) | omega | (simp; omega)) _))))) (by omega)).mono ?_; rintro e _ ⟨sA, sc, rfl, hsl, ⟨y1, rfl⟩⟩)
            | (go_at_call 20; refine (valid52_any (withCals s cA cc) jA jc L sA sc l _ (shop_at H.out.1 (HR.out.1.of (by (repeat (first | (with_reducible exact SinceOf.refl _) | (with_reducible assumption) | (with_reducible refine SinceOf.alloc ?_ _) | (with_reducible refine SinceOf.drew ?_) | (with_reducible refine SinceOf.drewN ?_ _) | (with_reducible refine SinceOf.later ?_ _) | (with_reducible refine SinceOf.further ?_ _) | (with_reducible refine SinceOf.setCell ?_ (by first | exact Nat.le_refl _ | (simp; done) | omega | (simp; omega)) _))))) (by (repeat (first | (with_reducible exact SinceOf.refl _) | (with_reducible assumption) | (with_reducible refine SinceOf.alloc ?_ _) | (with_reducible refine SinceOf.drew ?_) | (with_reducible refine SinceOf.drewN ?_ _) | (with_reducible refine SinceOf.later ?_ _) | (with_reducible refine SinceOf.further ?_ _) | (with_reducible refine SinceOf.setCell ?_ (by first | exact Nat.le_refl _ | (simp; done) | omega | (simp; omega)) _))))) (jobs_at H.out.2.1 (HR.out.2.1.of (by (repeat (first | (with_reducible exact SinceOf.refl _) | (with_reducible assumption) | (with_reducible refine SinceOf.alloc ?_ _) | (with_reducible refine SinceOf.drew ?_) | (with_reducible refine SinceOf.drewN ?_ _) | (with_reducible refine SinceOf.later ?_ _) | (with_reducible refine SinceOf.further ?_ _) | (with_reducible refine SinceOf.setCell ?_ (by first | exact Nat.le_refl _ | (simp; done) | omega | (simp; omega)) _))))) (by (repeat (first | (with_reducible exact SinceOf.refl _) | (with_reducible assumption) | (with_reducible refine SinceOf.alloc ?_ _) | (with_reducible refine SinceOf.drew ?_) | (with_reducible refine SinceOf.drewN ?_ _) | (with_reducible refine SinceOf.later ?_ _) | (with_reducible refine SinceOf.further ?_ _) | (with_reducible refine SinceOf.setCell ?_ (by first | exact Nat.le_refl _ | (simp; done) | omega | (simp; omega)) _))))) ((hsl.isRow encS_len).of (by (repeat (first | (with_reducible exact SinceOf.refl _) | (with_reducible assumption) | (with_reducible refine SinceOf.alloc ?_ _) | (with_reducible refine SinceOf.drew ?_) | (with_reducible refine SinceOf.drewN ?_ _) | (with_reducible refine SinceOf.later ?_ _) | (with_reducible refine SinceOf.further ?_ _) | (with_reducible refine SinceOf.setCell ?_ (by first | exact Nat.le_refl _ | (simp; done) | omega | (simp; omega)) _))))) (by omega) hsl.le_cap).calls.mono ?_; rintro e _ ⟨rfl, y2, rfl⟩))
        generalize hv1 : (validT (withCals s cA cc) L l).1 = n1
        generalize hv2 : (validT (withCals s cA cc) L l).2 = n2
        by_cases hz : n2 = 0
        · have hgood := validT_zero.1 (hv2.trans hz)
          subst hz
          obtain ⟨i0, hi, hz0, hz1, hz2⟩ := info_parts infoSlot
          have HI := Lib.hid (And.intro hi (And.intro hz0 (And.intro hz1 hz2)))
          have HV := Lib.hid hgood
          clear hv1 hv2 hgood hi hz0 hz1 hz2
          go_wp2_with fail
          go_loopg [11, 12, 13] l.length (fun gas s11 s12 s13 wr => ∃ (k : Nat) (kk : Int) (A1 : Option Addr) (c1 : Nat) (A2 : Option Addr) (c2 : Nat) (P : List SlotR), k ≤ l.length ∧ k ≤ gas ∧ s11 = .slice A1 (l.drop k).reverse.length c1 ∧ s12 = .slice A2 P.length c2 ∧ s13 = .int .i64 kk ∧ kk = (k : Int) - 1 ∧ Owns encS 4 y2.wd.heap.size 46 wr A1 c1 (l.drop k).reverse ∧ Owns encS 4 y2.wd.heap.size 46 wr A2 c2 P ∧ P.Sublist (l.drop k).reverse ∧ (blockOf A2 = none ∨ blockOf A2 ≠ blockOf A1) ∧ SinceOf y2.wd wr)
          case atStart => exact ⟨l.length, _, none, 0, none, 0, [], Nat.le_refl _, Nat.le_refl _, by rw [List.drop_length]; rfl, rfl, rfl, rfl, by rw [List.drop_length]; exact Owns.nil _ _ _ _ _, Owns.nil _ _ _ _ _, by simp, .inl rfl, SinceOf.refl _⟩
          case round =>
            obtain ⟨k, kk, A1, c1, A2, c2, P, hk, hgas, rfl, rfl, rfl, hkk, ho1, ho2, hsub, hap, ⟨z, rfl⟩⟩ := hrel
            have hz1 := z.size
            by_cases hlt : 0 < k
            · obtain ⟨i, rfl⟩ : ∃ i, k = i + 1 := ⟨k - 1, by omega⟩
              obtain rfl : kk = (i : Int) := by omega
              have hr0 := H.out.2.2
              obtain ⟨gB, off, hB, hr⟩ := hr0.at_ (by omega)
              subst hB
              have hO := hr.there
              have s0 := hr.s0 i (by omega)
              have s1 := hr.s1 i (by omega)
              have s2 := hr.s2 i (by omega)
              have s3 := hr.s3 i (by omega)
              have hdr : (l.drop i).reverse = (l.drop (i + 1)).reverse ++ [l[i]] := by rw [List.drop_eq_getElem_cons (by omega), List.reverse_cons]
              have hQl : (l.drop (i + 1)).reverse.length ≤ 10 := by rw [List.length_reverse, List.length_drop]; omega
              have hPl : P.length ≤ 10 := Nat.le_trans hsub.length_le hQl
              generalize l[i] = x at *
              have HH := Lib.hid (And.intro ho1 (And.intro ho2 (And.intro hsub (And.intro hap hdr))))
              generalize (l.drop (i + 1)).reverse = Q at *
              clear ho1 ho2 hsub hap hdr hr hr0 hkk
              go_wp2_with (at_builtin; first
                | (refine wpList_append_row rfl (.tmp 53) (.tmp 58) 43 rfl encS_len (by omega) encS_one i0 _ 32 Try.underlying43 HI.out.1 HI.out.2.1 HI.out.2.2.1 HI.out.2.2.2 rfl (l := Q) (A := A1) (c := c1) (base := y2.wd.heap.size) rfl (HH.out.1.of (by (repeat (first | (with_reducible exact SinceOf.refl _) | (with_reducible assumption) | (with_reducible refine SinceOf.alloc ?_ _) | (with_reducible refine SinceOf.drew ?_) | (with_reducible refine SinceOf.drewN ?_ _) | (with_reducible refine SinceOf.later ?_ _) | (with_reducible refine SinceOf.further ?_ _) | (with_reducible refine SinceOf.setCell ?_ (by first | exact Nat.le_refl _ | (simp; done) | omega | (simp; omega)) _))))) (m := [x]) rfl (rowS_at _ _ x _ (by first | rfl | simp)) (by unfold maxLen; simp; omega) (by simp; omega) (by simp; omega) ?_; intro A3 c3 w3 hown3 hgr3 hbl3; have ho2 := (HH.out.2.1.alloc _).kept hgr3 HH.out.2.2.2.1; have hap3 : blockOf A2 = none ∨ blockOf A2 ≠ blockOf A3 := (by rcases HH.out.2.2.2.1 with h | h; exact .inl h; right; rcases hbl3 with e | e <;> rw [e]; exact h; intro e2; have := (HH.out.2.1.below _ e2).2; simp at this; omega); obtain ⟨y3, rfl⟩ : SinceOf y2.wd w3 := SinceOf.grown (by (repeat (first | (with_reducible exact SinceOf.refl _) | (with_reducible assumption) | (with_reducible refine SinceOf.alloc ?_ _) | (with_reducible refine SinceOf.drew ?_) | (with_reducible refine SinceOf.drewN ?_ _) | (with_reducible refine SinceOf.later ?_ _) | (with_reducible refine SinceOf.further ?_ _) | (with_reducible refine SinceOf.setCell ?_ (by first | exact Nat.le_refl _ | (simp; done) | omega | (simp; omega)) _)))) hgr3 (fun b hb => (HH.out.1.below b hb).1); have HS := Lib.hid (And.intro hown3 (And.intro ho2 hap3)); have hy3 := y3.size; clear hown3 ho2 hap3 hbl3)
                | (refine wpList_append_row rfl (.tmp 68) (.tmp 73) 43 rfl encS_len (by omega) encS_one i0 _ 32 Try.underlying43 HI.out.1 HI.out.2.1 HI.out.2.2.1 HI.out.2.2.2 rfl (l := P) (A := A2) (c := c2) (base := y2.wd.heap.size) rfl (HS.out.2.1.of (by (repeat (first | (with_reducible exact SinceOf.refl _) | (with_reducible assumption) | (with_reducible refine SinceOf.alloc ?_ _) | (with_reducible refine SinceOf.drew ?_) | (with_reducible refine SinceOf.drewN ?_ _) | (with_reducible refine SinceOf.later ?_ _) | (with_reducible refine SinceOf.further ?_ _) | (with_reducible refine SinceOf.setCell ?_ (by first | exact Nat.le_refl _ | (simp; done) | omega | (simp; omega)) _))))) (m := [x]) rfl (rowS_at _ _ x _ (by first | rfl | simp)) (by unfold maxLen; simp; omega) (by simp; omega) (by simp; omega) ?_; intro A4 c4 w4 hown4 hgr4 hbl4))
              · go_roundg i
                case measure => omega
                case rel =>
                  refine ⟨i, _, A3, c3, A4, c4, P ++ [x], by omega, Nat.le_refl _, by rw [HH.out.2.2.2.2, List.length_append]; rfl, by rw [List.length_append]; rfl, rfl, rfl, ?_, hown4, ?_, ?_, ?_⟩
                  · rw [HH.out.2.2.2.2]; exact (HS.out.1.alloc _).kept hgr4 (sep_symm HS.out.2.2)
                  · rw [HH.out.2.2.2.2]; exact HH.out.2.2.1.append (List.Sublist.refl _)
                  · rcases hbl4 with e | e
                    · rw [e]; exact HS.out.2.2
                    · right
                      rw [e]
                      intro e2
                      have := (HS.out.1.below _ e2.symm).2
                      simp at this
                      omega
                  · exact SinceOf.grown (by (repeat (first | (with_reducible exact SinceOf.refl _) | (with_reducible assumption) | (with_reducible refine SinceOf.alloc ?_ _) | (with_reducible refine SinceOf.drew ?_) | (with_reducible refine SinceOf.drewN ?_ _) | (with_reducible refine SinceOf.later ?_ _) | (with_reducible refine SinceOf.further ?_ _) | (with_reducible refine SinceOf.setCell ?_ (by first | exact Nat.le_refl _ | (simp; done) | omega | (simp; omega)) _)))) hgr4 (fun b hb => (HS.out.2.1.below b hb).1)
              · go_roundg i
                case measure => omega
                case rel => exact ⟨i, _, A3, c3, A2, c2, P, by omega, Nat.le_refl _, by rw [HH.out.2.2.2.2, List.length_append]; rfl, rfl, rfl, rfl, by rw [HH.out.2.2.2.2]; exact HS.out.1, HS.out.2.1, by rw [HH.out.2.2.2.2]; exact HH.out.2.2.1.trans (List.sublist_append_left _ _), HS.out.2.2, ⟨y3, rfl⟩⟩
            · obtain rfl : k = 0 := by omega
              have hkn : kk < 0 := by omega
              clear hkk
              generalize hQ : (l.drop 0).reverse = Q at *
              have hQ' : Q = l.reverse := by rw [← hQ, List.drop_zero]
              have hgQ : GoodS (withCals s cA cc) L Q := HV.out.2.part (by rw [hQ']; exact List.Sublist.refl _)
              have hgP : GoodS (withCals s cA cc) L P := HV.out.2.part (by rw [← hQ']; exact hsub)
              have hmb := checkS_bounds HV.out.1
              have hQl : Q.length ≤ 10 := by rw [hQ', List.length_reverse]; exact hlen
              have hPl : P.length ≤ 10 := Nat.le_trans hsub.length_le hQl
              have e1 : (validT (withCals s cA cc) L Q).2 = 0 := validT_zero.2 ⟨HV.out.1, hgQ⟩
              have e2 : (validT (withCals s cA cc) L P).2 = 0 := validT_zero.2 ⟨HV.out.1, hgP⟩
              have Sz : SinceOf y.wd z.wd := by (repeat (first | (with_reducible exact SinceOf.refl _) | (with_reducible assumption) | (with_reducible refine SinceOf.alloc ?_ _) | (with_reducible refine SinceOf.drew ?_) | (with_reducible refine SinceOf.drewN ?_ _) | (with_reducible refine SinceOf.later ?_ _) | (with_reducible refine SinceOf.further ?_ _) | (with_reducible refine SinceOf.setCell ?_ (by first | exact Nat.le_refl _ | (simp; done) | omega | (simp; omega)) _)))
              have Sw : SinceOf w z.wd := by (repeat (first | (with_reducible exact SinceOf.refl _) | (with_reducible assumption) | (with_reducible refine SinceOf.alloc ?_ _) | (with_reducible refine SinceOf.drew ?_) | (with_reducible refine SinceOf.drewN ?_ _) | (with_reducible refine SinceOf.later ?_ _) | (with_reducible refine SinceOf.further ?_ _) | (with_reducible refine SinceOf.setCell ?_ (by first | exact Nat.le_refl _ | (simp; done) | omega | (simp; omega)) _)))
              have V1 : ∀ W, SinceOf z.wd W → Gives Try.prog 20 #[.agg #[.slice cA s.cals.length cc, .slice s.B s.rows.length s.d, .int .i64 s.most], .slice jA L.length jc, .slice A1 Q.length c1] W (.tuple #[.int .i64 (validT (withCals s cA cc) L Q).1, .int .i64 0]) := fun W hW => by
                have := valid52_any (withCals s cA cc) jA jc L A1 c1 Q W (shop_at H.out.1 (HR.out.1.of (Sz.trans hW)) (Sw.trans hW)) (jobs_at H.out.2.1 (HR.out.2.1.of (Sz.trans hW)) (Sw.trans hW)) ((ho1.isRow encS_len).of hW) (by omega) ho1.le_cap
                rw [e1] at this
                exact this
              have V2 : ∀ W, SinceOf z.wd W → Gives Try.prog 20 #[.agg #[.slice cA s.cals.length cc, .slice s.B s.rows.length s.d, .int .i64 s.most], .slice jA L.length jc, .slice A2 P.length c2] W (.tuple #[.int .i64 (validT (withCals s cA cc) L P).1, .int .i64 0]) := fun W hW => by
                have := valid52_any (withCals s cA cc) jA jc L A2 c2 P W (shop_at H.out.1 (HR.out.1.of (Sz.trans hW)) (Sw.trans hW)) (jobs_at H.out.2.1 (HR.out.2.1.of (Sz.trans hW)) (Sw.trans hW)) ((ho2.isRow encS_len).of hW) (by omega) ho2.le_cap
                rw [e2] at this
                exact this
              generalize (validT (withCals s cA cc) L Q).1 = n2 at *
              generalize (validT (withCals s cA cc) L P).1 = n3 at *
              have HQ := Lib.hid (And.intro ho1 (And.intro ho2 (And.intro hQ' hgQ)))
              have hms : (withCals s cA cc).most = s.most := rfl
              rw [hms] at hmb
              clear ho1 ho2 hQ hQ' hgQ hgP e1 e2 hap hsub hms
              go_wp2_with fail
              refine (V1 _ (by (repeat (first | (with_reducible exact SinceOf.refl _) | (with_reducible assumption) | (with_reducible refine SinceOf.alloc ?_ _) | (with_reducible refine SinceOf.drew ?_) | (with_reducible refine SinceOf.drewN ?_ _) | (with_reducible refine SinceOf.later ?_ _) | (with_reducible refine SinceOf.further ?_ _) | (with_reducible refine SinceOf.setCell ?_ (by first | exact Nat.le_refl _ | (simp; done) | omega | (simp; omega)) _))))).calls.mono ?_
              rintro e _ ⟨rfl, y4, rfl⟩
              go_wp2_with fail
              refine (V2 _ (by (repeat (first | (with_reducible exact SinceOf.refl _) | (with_reducible assumption) | (with_reducible refine SinceOf.alloc ?_ _) | (with_reducible refine SinceOf.drew ?_) | (with_reducible refine SinceOf.drewN ?_ _) | (with_reducible refine SinceOf.later ?_ _) | (with_reducible refine SinceOf.further ?_ _) | (with_reducible refine SinceOf.setCell ?_ (by first | exact Nat.le_refl _ | (simp; done) | omega | (simp; omega)) _))))).calls.mono ?_
              rintro e _ ⟨rfl, y5, rfl⟩
              go_wp2_with fail
              have hmv : s.most ≤ imin 40 (s.most + v % 4) ∧ 1 ≤ imin 40 (s.most + v % 4) ∧ imin 40 (s.most + v % 4) ≤ 40 := by unfold imin; split <;> omega
              generalize imin 40 (s.most + v % 4) = m at *
              have hgs : w.heap.size ≤ g := by
                have q : SinceOf w x3.wd := by (repeat (first | (with_reducible exact SinceOf.refl _) | (with_reducible assumption) | (with_reducible refine SinceOf.alloc ?_ _) | (with_reducible refine SinceOf.drew ?_) | (with_reducible refine SinceOf.drewN ?_ _) | (with_reducible refine SinceOf.later ?_ _) | (with_reducible refine SinceOf.further ?_ _) | (with_reducible refine SinceOf.setCell ?_ (by first | exact Nat.le_refl _ | (simp; done) | omega | (simp; omega)) _)))
                have := q.size
                omega
              have hgy : g < y2.wd.heap.size := by
                have q : SinceOf y.wd y2.wd := by (repeat (first | (with_reducible exact SinceOf.refl _) | (with_reducible assumption) | (with_reducible refine SinceOf.alloc ?_ _) | (with_reducible refine SinceOf.drew ?_) | (with_reducible refine SinceOf.drewN ?_ _) | (with_reducible refine SinceOf.later ?_ _) | (with_reducible refine SinceOf.further ?_ _) | (with_reducible refine SinceOf.setCell ?_ (by first | exact Nat.le_refl _ | (simp; done) | omega | (simp; omega)) _)))
                have := q.size
                have := hOg.elim fun q => q.lt
                omega
              have Sy5 : SinceOf y.wd y5.wd := by (repeat (first | (with_reducible exact SinceOf.refl _) | (with_reducible assumption) | (with_reducible refine SinceOf.alloc ?_ _) | (with_reducible refine SinceOf.drew ?_) | (with_reducible refine SinceOf.drewN ?_ _) | (with_reducible refine SinceOf.later ?_ _) | (with_reducible refine SinceOf.further ?_ _) | (with_reducible refine SinceOf.setCell ?_ (by first | exact Nat.le_refl _ | (simp; done) | omega | (simp; omega)) _)))
              have Sz5 : SinceOf z.wd y5.wd := by (repeat (first | (with_reducible exact SinceOf.refl _) | (with_reducible assumption) | (with_reducible refine SinceOf.alloc ?_ _) | (with_reducible refine SinceOf.drew ?_) | (with_reducible refine SinceOf.drewN ?_ _) | (with_reducible refine SinceOf.later ?_ _) | (with_reducible refine SinceOf.further ?_ _) | (with_reducible refine SinceOf.setCell ?_ (by first | exact Nat.le_refl _ | (simp; done) | omega | (simp; omega)) _)))
              have Sw6 : SinceOf w (y5.wd.setCell ⟨g, 2, none⟩ (.int .i64 m)) := (Sw.trans Sz5).setCell hgs _
              have rc6 : IsRow encC 3 (y5.wd.setCell ⟨g, 2, none⟩ (.int .i64 m)) cA cc s.cals := (HR.out.1.of Sy5).setOther _ _ _ HR.out.2.2.1
              have rj6 : IsRow encJ 6 (y5.wd.setCell ⟨g, 2, none⟩ (.int .i64 m)) jA jc L := (HR.out.2.1.of Sy5).setOther _ _ _ HR.out.2.2.2
              have rs6 : IsSlots (y5.wd.setCell ⟨g, 2, none⟩ (.int .i64 m)) A1 c1 Q := ((HQ.out.1.isRow encS_len).of Sz5).setOther _ _ _ (fun b hb => by have := (HQ.out.1.below b hb).1; omega)
              have hcs : checkS (withMost (withCals s cA cc) m) L = true := checkS_most HV.out.1 hmv.2.1 hmv.2.2
              have e3 : (validT (withMost (withCals s cA cc) m) L Q).2 = 0 := validT_zero.2 ⟨hcs, HQ.out.2.2.2.most hmv.1⟩
              have V3 : ∀ W, SinceOf (y5.wd.setCell ⟨g, 2, none⟩ (.int .i64 m)) W → Gives Try.prog 20 #[.agg #[.slice cA s.cals.length cc, .slice s.B s.rows.length s.d, .int .i64 m], .slice jA L.length jc, .slice A1 Q.length c1] W (.tuple #[.int .i64 (validT (withMost (withCals s cA cc) m) L Q).1, .int .i64 0]) := fun W hW => by
                have is := (shop_at H.out.1 (rc6.of hW) (Sw6.trans hW))
                have := valid52_any (withMost (withCals s cA cc) m) jA jc L A1 c1 Q W ⟨is.cals, is.rows⟩ (jobs_at H.out.2.1 (rj6.of hW) (Sw6.trans hW)) (rs6.of hW) (by omega) HQ.out.1.le_cap
                rw [e3] at this
                exact this
              have hdue : ∀ j ∈ L, 0 ≤ j.due ∧ j.due ≤ 1000000 := fun j hj => (job_parts (check_job HV.out.1 hj)).2.2.2.2.2.1
              have hpp : priceV L Q = priceV L l := by rw [HQ.out.2.2.1]; exact price_perm (List.reverse_perm l)
              have P1 : ∀ W, SinceOf (y5.wd.setCell ⟨g, 2, none⟩ (.int .i64 m)) W → Yields Try.prog 22 #[.slice jA L.length jc, .slice A1 Q.length c1] W (slotV (priceV L l)) := fun W hW => by
                have := price_any jA jc L A1 c1 Q W (jobs_at H.out.2.1 (rj6.of hW) (Sw6.trans hW)) (by omega) hdue (rs6.of hW) (by omega) (good_stop HQ.out.2.2.2)
                rw [hpp] at this
                exact this
              have P2 : ∀ W (sA : Option Addr) (sc : Nat), SinceOf (y5.wd.setCell ⟨g, 2, none⟩ (.int .i64 m)) W → IsSlots W sA sc l → Yields Try.prog 22 #[.slice jA L.length jc, .slice sA l.length sc] W (slotV (priceV L l)) := fun W sA sc hW hl => price_any jA jc L sA sc l W (jobs_at H.out.2.1 (rj6.of hW) (Sw6.trans hW)) (by omega) hdue hl (by omega) (good_stop HV.out.2)
              generalize (validT (withMost (withCals s cA cc) m) L Q).1 = n4 at *
              generalize priceV L l = pr at *
              obtain ⟨pa, pb, pc, pd⟩ := pr
              have eqc : eqC pa pb pc pd pa pb pc pd = true := by unfold eqC; simp
              have EQC := Lib.hid eqc
              clear V1 V2 rc6 rj6 rs6 hcs e3 hdue hpp eqc
              refine (V3 _ (SinceOf.refl _)).calls.mono ?_
              rintro e _ ⟨rfl, y6, rfl⟩
              go_wp2_with fail
              refine (P1 _ (by (repeat (first | (with_reducible exact SinceOf.refl _) | (with_reducible assumption) | (with_reducible refine SinceOf.alloc ?_ _) | (with_reducible refine SinceOf.drew ?_) | (with_reducible refine SinceOf.drewN ?_ _) | (with_reducible refine SinceOf.later ?_ _) | (with_reducible refine SinceOf.further ?_ _) | (with_reducible refine SinceOf.setCell ?_ (by first | exact Nat.le_refl _ | (simp; done) | omega | (simp; omega)) _))))).calls.mono ?_
              rintro e _ ⟨rfl, y7, rfl⟩
              go_wp2_with fail
              refine (slots_any B d l _ (H.out.2.2.of (by refine Sw6.trans ?_; (repeat (first | (with_reducible exact SinceOf.refl _) | (with_reducible assumption) | (with_reducible refine SinceOf.alloc ?_ _) | (with_reducible refine SinceOf.drew ?_) | (with_reducible refine SinceOf.drewN ?_ _) | (with_reducible refine SinceOf.later ?_ _) | (with_reducible refine SinceOf.further ?_ _) | (with_reducible refine SinceOf.setCell ?_ (by first | exact Nat.le_refl _ | (simp; done) | omega | (simp; omega)) _))))) (by omega)).mono ?_
              rintro e _ ⟨sA2, sc2, rfl, hsl2, ⟨y8, rfl⟩⟩
              have hsl2' := hsl2.isRow encS_len
              clear hsl2
              go_wp2_with fail
              refine (P2 _ sA2 sc2 (by (repeat (first | (with_reducible exact SinceOf.refl _) | (with_reducible assumption) | (with_reducible refine SinceOf.alloc ?_ _) | (with_reducible refine SinceOf.drew ?_) | (with_reducible refine SinceOf.drewN ?_ _) | (with_reducible refine SinceOf.later ?_ _) | (with_reducible refine SinceOf.further ?_ _) | (with_reducible refine SinceOf.setCell ?_ (by first | exact Nat.le_refl _ | (simp; done) | omega | (simp; omega)) _)))) (hsl2'.of (by (repeat (first | (with_reducible exact SinceOf.refl _) | (with_reducible assumption) | (with_reducible refine SinceOf.alloc ?_ _) | (with_reducible refine SinceOf.drew ?_) | (with_reducible refine SinceOf.drewN ?_ _) | (with_reducible refine SinceOf.later ?_ _) | (with_reducible refine SinceOf.further ?_ _) | (with_reducible refine SinceOf.setCell ?_ (by first | exact Nat.le_refl _ | (simp; done) | omega | (simp; omega)) _)))))).calls.mono ?_
              rintro e _ ⟨rfl, y9, rfl⟩
              go_wp2_with fail
              go_returns
              refine ⟨by show Ending.returned (.bool (eqC pa pb pc pd pa pb pc pd)) = _; rw [EQC.out], Sw6.trans ?_⟩
              (repeat (first | (with_reducible exact SinceOf.refl _) | (with_reducible assumption) | (with_reducible refine SinceOf.alloc ?_ _) | (with_reducible refine SinceOf.drew ?_) | (with_reducible refine SinceOf.drewN ?_ _) | (with_reducible refine SinceOf.later ?_ _) | (with_reducible refine SinceOf.further ?_ _) | (with_reducible refine SinceOf.setCell ?_ (by first | exact Nat.le_refl _ | (simp; done) | omega | (simp; omega)) _)))
        · have hb : (n2 != 0) = true := by simpa using hz
          clear hv1 hv2
          go_wp2_with fail
          go_returns
          exact ⟨rfl, by (repeat (first | (with_reducible exact SinceOf.refl _) | (with_reducible assumption) | (with_reducible refine SinceOf.alloc ?_ _) | (with_reducible refine SinceOf.drew ?_) | (with_reducible refine SinceOf.drewN ?_ _) | (with_reducible refine SinceOf.later ?_ _) | (with_reducible refine SinceOf.further ?_ _) | (with_reducible refine SinceOf.setCell ?_ (by first | exact Nat.le_refl _ | (simp; done) | omega | (simp; omega)) _)))⟩
end Go.Proofs.Ytbceogoeoojdbaa
