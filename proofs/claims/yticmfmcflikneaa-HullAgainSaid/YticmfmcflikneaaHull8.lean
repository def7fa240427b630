/- Layer 10: the sorted points, compacted and reversed: the row is empty or the call's own. -/
import Derived.Test.YticmfmcflikneaaHull7
namespace Go.Proofs.Yticmfmcflikneaa
open Go.RowKit Go.Sort
set_option linter.unusedVariables false
attribute [local go_sem ↓] Go.wp_at_zero Go.wp_at_succ

/-- A slice that the call itself has made, or an empty one. -/
structure LiveV (base : Nat) (w : World) (A : Option Addr) (c : Nat) (l : List (Int × Int)) : Prop where
  own : ∀ b, blockOf A = some b → base ≤ b ∧ b < w.heap.size
  nil : A = none → c = 0
  row : l = [] ∨ ∃ g, A = some ⟨g, 0, none⟩ ∧ Live encV 2 w g 0 l ∧ l.length ≤ c
section
variable {base b' : Nat} {w w' : World} {A : Option Addr} {c : Nat} {l : List (Int × Int)}
theorem LiveV.isRow (h : LiveV base w A c l) : IsVecs w A c l := by
  refine ⟨h.nil, ?_⟩
  rcases h.row with h | ⟨g, e, hl, _⟩
  · exact .inl h
  · exact .inr ⟨g, 0, e, hl.row⟩
theorem LiveV.of (h : LiveV base w A c l) (hs : SinceOf w w') : LiveV base w' A c l := by
  refine ⟨fun b hb => ⟨(h.own b hb).1, ?_⟩, h.nil, ?_⟩
  · obtain ⟨z, rfl⟩ := hs
    exact Nat.lt_of_lt_of_le (h.own b hb).2 z.size
  · rcases h.row with h | ⟨g, e, hl, hc⟩
    · exact .inl h
    · exact .inr ⟨g, e, hl.of hs, hc⟩
theorem Owns.liveV (h : OwnVecs base w A c l) : LiveV base w A c l := by
  refine ⟨h.below, ?_, ?_⟩
  · rcases h.2 with ⟨h', _⟩ | ⟨g', cap, cur, h', _⟩
    · simp only [Value.slice.injEq] at h'
      exact fun _ => h'.2.2
    · simp only [Value.slice.injEq] at h'
      intro e; rw [h'.1] at e; cases e
  · by_cases h0 : l = []
    · exact .inl h0
    · obtain ⟨g, e, hb, hl⟩ := h.live encV_len (List.length_pos_iff.2 h0)
      refine .inr ⟨g, e, hl, ?_⟩
      rcases h.2 with ⟨h', h''⟩ | ⟨g', cap, cur, h', _, _, hn, _⟩
      · exact absurd (List.length_eq_zero_iff.1 h'') h0
      · simp only [Value.slice.injEq] at h'
        omega
end
theorem collect_any (A : Option Addr) (c : Nat) (l : List (Int × Int)) (b : Nat) (w : World) (h : IsVecs w A c l) (hl : l.length * 16 ≤ 140737488355328) (hb : w.cell? ⟨b, 0, none⟩ = some (.slice A l.length c)) (hbO : Nonempty (Old w b)) :
    Calls Try.prog 86 #[.func (.func 94) #[] #[.pointer (some ⟨b, 0, none⟩)]] w fun e w' => ∃ A' c', e = .returned (.slice A' l.length c') ∧ OwnVecs w.heap.size w' A' c' l ∧ SinceOf w w' := by
  have H := Lib.hid (And.intro h (And.intro hb hbO))
  clear h hb hbO
  go_enter Try.func86, Try.ntmps86
  go_wp2_with fail
  refine (appendSeq_any A c l b w H.out.1 hl H.out.2.1 H.out.2.2).mono ?_
  rintro e _ ⟨A1, c1, rfl, ho, ⟨x1, rfl⟩⟩
  have HO := Lib.hid ho
  clear ho
  go_wp2_with fail
  go_returns
  exact ⟨A1, c1, rfl, HO.out, ⟨x1, rfl⟩⟩
theorem values_any (A : Option Addr) (c : Nat) (l : List (Int × Int)) (w : World) :
    Calls Try.prog 62 #[.slice A l.length c] w fun e w' => ∃ b, e = .returned (.func (.func 94) #[] #[.pointer (some ⟨b, 0, none⟩)]) ∧ w'.cell? ⟨b, 0, none⟩ = some (.slice A l.length c) ∧ Nonempty (Old w' b) ∧ SinceOf w w' := by
  go_enter Try.func62, Try.ntmps62
  go_wp2_with fail
  go_returns
  refine ⟨w.heap.size, rfl, by simp [go_sem], ⟨⟨by simp⟩⟩, by (repeat (first | (with_reducible exact SinceOf.refl _) | (with_reducible assumption) | (with_reducible refine SinceOf.alloc ?_ _) | (with_reducible refine SinceOf.drew ?_) | (with_reducible refine SinceOf.drewN ?_ _) | (with_reducible refine SinceOf.later ?_ _) | (with_reducible refine SinceOf.further ?_ _) | (with_reducible refine SinceOf.setCell ?_ (by first | exact Nat.le_refl _ | (simp; done) | omega | (simp; omega)) _)))⟩
theorem sortedX_any (A : Option Addr) (c : Nat) (l : List (Int × Int)) (b : Nat) (w : World) (h : IsVecs w A c l) (hl : l.length * 16 ≤ 140737488355328) (hb : w.cell? ⟨b, 0, none⟩ = some (.slice A l.length c)) (hbO : Nonempty (Old w b)) :
    Calls Try.prog 61 #[.func (.func 94) #[] #[.pointer (some ⟨b, 0, none⟩)], .func (.func 63) #[] #[]] w fun e w' => ∃ A' c', e = .returned (.slice A' (xsort l).length c') ∧ LiveV w.heap.size w' A' c' (xsort l) ∧ SinceOf w w' := by
  have H := Lib.hid (And.intro h (And.intro hb hbO))
  clear h hb hbO
  have hs := fun p cap W => AnyF.slices_SortFunc_none (P := Try.prog) { Try.sortVec with } p cap (.func (.func 63) #[] #[]) W
  change ∀ p cap W, Calls Try.prog 93 _ _ _ at hs
  have HS := Lib.hid hs
  clear hs
  go_enter Try.func61, Try.ntmps61
  go_wp2_with fail
  refine (collect_any A c l b w H.out.1 hl H.out.2.1 H.out.2.2).mono ?_
  rintro e _ ⟨A1, c1, rfl, ho, ⟨x1, rfl⟩⟩
  have hlv := Owns.liveV ho
  have HO := Lib.hid hlv
  have hlen := xsort_length l
  clear ho hlv
  by_cases h0 : l = []
  · subst h0
    simp only [List.length_nil] at *
    go_wp2_with fail
    refine (HS.out _ _ _).mono ?_
    rintro e _ ⟨rfl, rfl⟩
    go_wp2_with fail
    go_returns
    have e0 : xsort [] = [] := by unfold xsort; simp
    rw [e0]
    exact ⟨A1, c1, rfl, HO.out, ⟨x1, rfl⟩⟩
  · obtain ⟨g, rfl, hL, hc⟩ := HO.out.row.resolve_left h0
    have HL := Lib.hid hL
    clear hL
    go_wp2_with fail
    refine (sortX_any g 0 c1 l _ HL.out (by omega)).mono ?_
    rintro e w2 ⟨rfl, hL2, hg2⟩
    have H2 := Lib.hid (And.intro hL2 hg2)
    clear hL2 hg2
    go_wp2_with fail
    go_returns
    have hgb := HO.out.own g rfl
    refine ⟨some ⟨g, 0, none⟩, c1, by rw [hlen]; rfl, ⟨?_, (by intro h; cases h), .inr ⟨g, rfl, H2.out.1, by omega⟩⟩, (SinceOf.further (SinceOf.refl w) x1).grown H2.out.2 (by intro k hk; injection hk with hk; omega)⟩
    intro k hk
    injection hk with hk
    subst hk
    exact ⟨hgb.1, Nat.lt_of_lt_of_le hgb.2 H2.out.2.size⟩
theorem compactX_any (A : Option Addr) (base c : Nat) (l : List (Int × Int)) (w : World) (h : LiveV base w A c l) (hn : l.length ≤ 4611686018427387904) :
    Calls Try.prog 66 #[.slice A l.length c] w fun e w' => e = .returned (.slice A (compactV l).length c) ∧ LiveV base w' A c (compactV l) ∧ w.grownBy w' (blockOf A) := by
  by_cases h0 : l = []
  · subst h0
    have e0 : compactV [] = [] := by unfold compactV; simp [Lib.compactUpTo]
    rw [e0]
    refine (compact_none A c w).mono ?_
    rintro e _ ⟨rfl, rfl⟩
    exact ⟨rfl, h, World.grownBy.refl _ _⟩
  · obtain ⟨g, rfl, hL, hc⟩ := h.row.resolve_left h0
    refine (compact_any g 0 c l w hL hn hc).mono ?_
    rintro e w' ⟨rfl, hL2, hg⟩
    refine ⟨rfl, ⟨fun b hb => ⟨(h.own b hb).1, Nat.lt_of_lt_of_le (h.own b hb).2 hg.size⟩, (by intro h; cases h), .inr ⟨g, rfl, hL2, ?_⟩⟩, hg⟩
    have : (compactV l).length ≤ l.length := by unfold compactV Lib.compactUpTo; rw [List.length_map]; exact Nat.le_trans (List.length_filter_le _ _) (by simp)
    omega
theorem reverse_none (A : Option Addr) (c : Nat) (w : World) :
    Calls Try.prog 69 #[.slice A 0 c] w fun e w' => e = .returned (.tuple #[]) ∧ w = w' := by
  go_enter Try.func69, Try.ntmps69
  go_wp2_with fail
  go_loopg [2, 3] 1 (fun gas s2 s3 wr => ∃ kk : Int, s2 = .int .i64 0 ∧ s3 = .int .i64 kk ∧ kk < 0 ∧ wr = w)
  case atStart => exact ⟨-1, rfl, rfl, by decide, rfl⟩
  case round =>
    obtain ⟨kk, rfl, rfl, hk, rfl⟩ := hrel
    have hk2 : ¬ (0 : Int) < kk := by omega
    go_wp2_with fail
    go_end0
    exact ⟨rfl, rfl⟩
theorem reverseX_any (A : Option Addr) (base c : Nat) (l : List (Int × Int)) (w : World) (h : LiveV base w A c l) (hn : l.length < 4611686018427387904) :
    Calls Try.prog 69 #[.slice A l.length c] w fun e w' => e = .returned (.tuple #[]) ∧ LiveV base w' A c l.reverse ∧ w.grownBy w' (blockOf A) := by
  by_cases h0 : l = []
  · subst h0
    refine (reverse_none A c w).mono ?_
    rintro e _ ⟨rfl, rfl⟩
    exact ⟨rfl, h, World.grownBy.refl _ _⟩
  · obtain ⟨g, rfl, hL, hc⟩ := h.row.resolve_left h0
    refine (reverse_any g 0 c l w hL hn).mono ?_
    rintro e w' ⟨rfl, hL2, hg⟩
    exact ⟨rfl, ⟨fun b hb => ⟨(h.own b hb).1, Nat.lt_of_lt_of_le (h.own b hb).2 hg.size⟩, (by intro h; cases h), .inr ⟨g, rfl, hL2, by simpa using hc⟩⟩, hg⟩
end Go.Proofs.Yticmfmcflikneaa
