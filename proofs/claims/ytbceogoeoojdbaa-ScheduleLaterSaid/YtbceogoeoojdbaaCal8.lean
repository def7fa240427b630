/- Rows of intervals: Clone, Same, SortFunc; calendars: Equal, Few, Own. -/
import Derived.Test.YtbceogoeoojdbaaRows2
import Derived.Test.YtbceogoeoojdbaaCal7
namespace Go.Proofs.Ytbceogoeoojdbaa
open Go.RowKit Go.Sort
set_option linter.unusedVariables false

theorem infoIv : (Try.prog.info? 55).map (fun i => (i.zero, i.size, i.bytes)) = some (some (.agg #[.int .i64 0, .int .i64 0]), 2, 16) := by kernel_rfl
abbrev OwnIvs (base : Nat) (w : World) (A : Option Addr) (c : Nat) (l : List (Int × Int)) : Prop := Owns encV 2 base 55 w A c l
@[go_sem] theorem eql_ivs_nil (w : World) (A : Option Addr) (n c n' c' : Nat) : (binOp .eql 56 (.slice A n c) (.slice none n' c')).run Try.prog w = .ok (.bool A.isNone) w :=
  Lib.run_eql_slice_nil w _ _ A n c n' c' Try.underlying56

theorem cloneIvs_any (A : Option Addr) (c : Nat) (l : List (Int × Int)) (w : World) (hl : IsIvs w A c l) (hn : l.length * 16 ≤ 140737488355328) :
    Calls Try.prog 77 #[.slice A l.length c] w fun e w' => ∃ A' c', e = .returned (.slice A' l.length c') ∧ OwnIvs w.heap.size w' A' c' l ∧ SinceOf w w' := by
  obtain ⟨i0, hi, hz0, hz1, hz2⟩ := info_parts infoIv
  cases A with
  | none =>
    obtain rfl : c = 0 := hl.1 rfl
    have hl0 : l = [] := by
      rcases hl.2 with h | ⟨g, off, h, _⟩
      · exact h
      · cases h
    subst hl0
    go_enter Try.func77, Try.ntmps77
    go_wp2_with fail
    go_returns
    exact ⟨none, 0, rfl, Owns.nil _ _ _ _ _, SinceOf.refl _⟩
  | some ad =>
    go_enter Try.func77, Try.ntmps77
    go_wp2_with (at_builtin; refine wpList_append_row rfl (.tmp 5) (.tmp 6) 56 rfl encV_len (by omega) encV_one i0 _ 16 Try.underlying56 hi hz0 hz1 hz2 rfl (l := []) (A := some ⟨w.heap.size, 0, none⟩) (c := 0) (base := w.heap.size) rfl (World.ownsRow_lit w #[] 0 (Nat.le_refl _) (Nat.zero_le _) rfl) (m := l) rfl (hl.of (SinceOf.alloc (SinceOf.refl w) _)) (by unfold maxLen; simp; omega) (by simpa using hn) (by simp) ?_; intro A' c' w' hown hgrow _)
    go_returns
    exact ⟨A', c', rfl, hown, ((SinceOf.refl w).alloc _).grown hgrow (by intro k hk; simp [blockOf] at hk; omega)⟩

theorem sameIvs_any (A B : Option Addr) (c d : Nat) (l m : List (Int × Int)) (w : World) (hl : IsIvs w A c l) (hm : IsIvs w B d m) (hn : l.length < 4611686018427387904) (hn2 : m.length < 4611686018427387904) :
    Gives Try.prog 55 #[.slice A l.length c, .slice B m.length d] w (.bool (decide (l = m))) := by
  apply Gives.ret
  by_cases hlen : l.length = m.length
  · have H := Lib.hid (And.intro hl hm)
    clear hl hm
    rw [← hlen]
    go_enter Try.func55, Try.ntmps55
    go_wp2
    go_loopg [5] l.length (fun n s5 wr => ∃ k : Nat, k ≤ l.length ∧ l.length - k ≤ n ∧ s5 = .int .i64 k ∧ LaterOf w wr ∧ l.take k = m.take k)
    case atStart => exact ⟨0, by omega, by omega, rfl, by (repeat (first | (with_reducible exact LaterOf.refl _) | (with_reducible refine LaterOf.alloc ?_ _) | (with_reducible refine LaterOf.drew ?_) | (with_reducible refine LaterOf.drewN ?_ _) | (with_reducible refine LaterOf.later ?_ _) | (with_reducible refine LaterOf.setCell ?_ (by first | exact Nat.le_refl _ | (simp; done) | omega | (simp; omega)) _))), by simp⟩
    case round =>
      obtain ⟨k, hk, hg, rfl, ⟨z, rfl⟩, heq⟩ := hrel
      have E := Lib.hid heq
      clear heq
      by_cases hlt : k < l.length
      · have hlt2 : k < m.length := by omega
        obtain ⟨g, off, rfl, hr⟩ := (H.out.1.later z).at_ (by omega)
        obtain ⟨g2, off2, rfl, hr2⟩ := (H.out.2.later z).at_ (by omega)
        have hO := hr.there
        have hO2 := hr2.there
        have c0 := hr.v0 k hlt
        have c1 := hr.v1 k hlt
        have d0 := hr2.v0 k hlt2
        have d1 := hr2.v1 k hlt2
        clear hr hr2
        obtain ⟨⟨x, y⟩, hx⟩ : ∃ q, q = l[k] := ⟨_, rfl⟩
        obtain ⟨⟨u, v⟩, hu⟩ : ∃ q, q = m[k] := ⟨_, rfl⟩
        rw [← hx] at c0 c1
        rw [← hu] at d0 d1
        have B := Lib.hid (And.intro hx hu)
        clear hx hu
        simp only at c0 c1 d0 d1
        by_cases hdup : eqv x y u v = true
        · go_wp2_with fail
          refine region_later (by kernel_rfl) (by kernel_rfl) ?_
          repeat (go_big_quiet_step (fail))
          refine wpQuiet_nil ?_
          rintro _ ⟨z2, rfl⟩
          go_wp2_with fail
          go_roundg (l.length - (k + 1))
          case measure => omega
          case rel =>
            refine ⟨k + 1, hlt, Nat.le_refl _, by go_num, by (repeat (first | (with_reducible exact LaterOf.refl _) | (with_reducible refine LaterOf.alloc ?_ _) | (with_reducible refine LaterOf.drew ?_) | (with_reducible refine LaterOf.drewN ?_ _) | (with_reducible refine LaterOf.later ?_ _) | (with_reducible refine LaterOf.setCell ?_ (by first | exact Nat.le_refl _ | (simp; done) | omega | (simp; omega)) _))), ?_⟩
            obtain ⟨rfl, rfl⟩ := eqv_iff.1 hdup
            rw [List.take_succ_eq_append_getElem hlt, List.take_succ_eq_append_getElem hlt2, E.out, ← B.out.1, ← B.out.2]
        · have hne : eqv x y u v = false := by simpa using hdup
          have hno : decide (l = m) = false := by
            rw [decide_eq_false_iff_not]
            rintro rfl
            have := B.out.1.trans B.out.2.symm
            injection this with h1 h2
            rw [h1, h2, eqv_self] at hne
            cases hne
          clear hdup
          have HN := Lib.hid hno
          clear hno
          go_wp2_with fail
          refine region_later (by kernel_rfl) (by kernel_rfl) ?_
          repeat (go_big_quiet_step (fail))
          refine wpQuiet_nil ?_
          rintro _ ⟨z2, rfl⟩
          go_wp2_with fail
          go_returns
          rw [HN.out]
          exact ⟨rfl, by (repeat (first | (with_reducible exact LaterOf.refl _) | (with_reducible refine LaterOf.alloc ?_ _) | (with_reducible refine LaterOf.drew ?_) | (with_reducible refine LaterOf.drewN ?_ _) | (with_reducible refine LaterOf.later ?_ _) | (with_reducible refine LaterOf.setCell ?_ (by first | exact Nat.le_refl _ | (simp; done) | omega | (simp; omega)) _)))⟩
      · have hkl : k = l.length := by omega
        have hyes : decide (l = m) = true := by
          have e := E.out
          rw [hkl, List.take_length, hlen, List.take_length] at e
          simpa using e
        have HY := Lib.hid hyes
        clear hyes
        go_wp2_with fail
        go_returns
        rw [HY.out]
        exact ⟨rfl, by (repeat (first | (with_reducible exact LaterOf.refl _) | (with_reducible refine LaterOf.alloc ?_ _) | (with_reducible refine LaterOf.drew ?_) | (with_reducible refine LaterOf.drewN ?_ _) | (with_reducible refine LaterOf.later ?_ _) | (with_reducible refine LaterOf.setCell ?_ (by first | exact Nat.le_refl _ | (simp; done) | omega | (simp; omega)) _)))⟩
  · have hno : decide (l = m) = false := by
      rw [decide_eq_false_iff_not]; rintro rfl; exact hlen rfl
    rw [hno]
    clear hl hm hno
    go_enter Try.func55, Try.ntmps55
    go_wp2
    go_returns
    exact ⟨rfl, by (repeat (first | (with_reducible exact LaterOf.refl _) | (with_reducible refine LaterOf.alloc ?_ _) | (with_reducible refine LaterOf.drew ?_) | (with_reducible refine LaterOf.drewN ?_ _) | (with_reducible refine LaterOf.later ?_ _) | (with_reducible refine LaterOf.setCell ?_ (by first | exact Nat.le_refl _ | (simp; done) | omega | (simp; omega)) _)))⟩


/-- Intervals with starts that a subtraction does not carry past the end of int. -/
abbrev Iv : Type := { p : Int × Int // 0 ≤ p.1 ∧ p.1 ≤ 1000000 }
instance : Inhabited Iv := ⟨⟨(0, 0), by omega⟩⟩
def encI (p : Iv) : List Value := encV p.1
def cmpIv (p q : Iv) : Int := p.1.1 - q.1.1
theorem ltOf_cmpIv (p q : Iv) : ltOf cmpIv p q = decide (p.1.1 < q.1.1) := by unfold ltOf cmpIv; simp; omega
theorem swoIv : SWO (ltOf cmpIv) where
  irrefl x := by rw [ltOf_cmpIv]; simp
  trans x y z h1 h2 := by rw [ltOf_cmpIv] at *; simp at *; omega
  ntrans x y z h1 h2 := by rw [ltOf_cmpIv] at *; simp at *; omega
theorem close1_any (a b c d : Int) (w : World) (h0 : 0 ≤ a) (h1 : a ≤ 1000000) (h2 : 0 ≤ c) (h3 : c ≤ 1000000) : Gives Try.prog 76 #[vv a b, vv c d] w (.int .i64 (a - c)) := by
  apply Gives.ret
  go_enter Try.func76, Try.ntmps76
  go_wp2_with fail
  go_returns
  exact ⟨rfl, by (repeat (first | (with_reducible exact LaterOf.refl _) | (with_reducible refine LaterOf.alloc ?_ _) | (with_reducible refine LaterOf.drew ?_) | (with_reducible refine LaterOf.drewN ?_ _) | (with_reducible refine LaterOf.later ?_ _) | (with_reducible refine LaterOf.setCell ?_ (by first | exact Nat.le_refl _ | (simp; done) | omega | (simp; omega)) _)))⟩
theorem cmpLaysIv (blk off size : Nat) (w : World) : CmpLays Try.prog 76 #[] encI 2 cmpIv blk off size w := by
  intro m os dk _ x y
  refine (close1_any x.1.1 x.1.2 y.1.1 y.1.2 _ x.2.1 x.2.2 y.2.1 y.2.2).calls.mono ?_
  rintro e _ ⟨rfl, z, rfl⟩
  exact ⟨rfl, grow_of_later z⟩
theorem rowAt_map {α β : Type} {enc : β → List Value} {k : Nat} {w : World} {g off : Nat} (f : α → β) {l : List α} : RowAt enc k w g off (l.map f) ↔ RowAt (fun x => enc (f x)) k w g off l := by
  constructor
  · rintro ⟨h, t⟩; exact ⟨fun i hi j u hu => h i (by simpa using hi) j u (by simpa using hu), t⟩
  · rintro ⟨h, t⟩; exact ⟨fun i hi j u hu => h i (by simpa using hi) j u (by simpa using hu), t⟩
theorem live_map {α β : Type} {enc : β → List Value} {k : Nat} {w : World} {g off : Nat} (f : α → β) {l : List α} : Live enc k w g off (l.map f) ↔ Live (fun x => enc (f x)) k w g off l := by
  constructor
  · rintro ⟨h, t⟩; exact ⟨(rowAt_map f).1 h, by simpa using t⟩
  · rintro ⟨h, t⟩; exact ⟨(rowAt_map f).2 h, by simpa using t⟩
/-- SortFunc by the starts: a permutation with starts that do not fall. -/
theorem sortIvs_any (g off c : Nat) (l : List (Int × Int)) (w : World) (hL : Live encV 2 w g off l) (hn : l.length < 4611686018427387904) (hb : ∀ p ∈ l, 0 ≤ p.1 ∧ p.1 ≤ 1000000) :
    Calls Try.prog 75 #[.slice (some ⟨g, off, none⟩) l.length c, .func (.func 76) #[] #[]] w fun e w' => e = .returned (.tuple #[]) ∧ ∃ m, m.Perm l ∧ m.Pairwise (fun a b => a.1 ≤ b.1) ∧ Live encV 2 w' g off m ∧ w.grownBy w' (some g) := by
  have eg : ∀ args w, (callFunc 76 args).run Try.prog w = .ok (.enter 76 args) w := Go.Proofs.enters_of Try.func76 (by kernel_rfl) rfl
  have hg : g < w.heap.size := hL.row.there.elim fun h => h.lt
  obtain ⟨la, rfl⟩ : ∃ la : List Iv, l = la.map (·.1) := ⟨l.attach.map fun p => ⟨p.1, hb p.1 p.2⟩, by rw [List.map_map]; exact (List.attach_map_subtype_val l).symm⟩
  have hLa : Live encI 2 w g off la := (live_map (enc := encV) (fun p : Iv => p.1)).1 hL
  have encI_len : ∀ x, (encI x).length = 2 := fun x => rfl
  have encI_one : ∀ x, ∀ v ∈ encI x, v.oneCell' = true := fun x => encV_one x.1
  have hcon := AnyQ.slices_SortFunc Try.sortIvs 2 Try.isAgg55 Try.sizeOf55 encI encI_len encI_one cmpIv swoIv 76 #[] g off c la.toArray w eg (cmpLaysIv g off la.toArray.size w) (hLa.holds encI_len (by omega)) hg (by simpa using hn)
  change Calls Try.prog 75 _ _ _ at hcon
  simp only [List.size_toArray] at hcon
  rw [List.length_map]
  refine hcon.mono ?_
  rintro e w' ⟨rfl, d', n, os, hp, hs, rfl⟩
  obtain ⟨hsz, -, hperm⟩ := hp
  have hsz' : d'.size = la.length := by simpa using hsz
  refine ⟨rfl, d'.toList.map (·.1), ?_, ?_, ?_, sortWorld_grown encI 2 w g off n _ os⟩
  · have h1 : d'.extract 0 la.length = d' := by rw [← hsz', Array.extract_size]
    have h2 : la.toArray.extract 0 la.length = la.toArray := by simp
    rw [h1, h2] at hperm
    exact hperm.map _
  · rw [List.pairwise_map, List.pairwise_iff_getElem]
    intro i j hi hj hij
    have := hs i j (Nat.zero_le _) hij (by simpa [hsz'] using hj)
    rw [ltOf_cmpIv] at this
    have hi' : i < d'.size := by simpa using hi
    have hj' : j < d'.size := by simpa using hj
    simp only [getElem!_pos d' i hi', getElem!_pos d' j hj', decide_eq_false_iff_not] at this
    simp only [Array.getElem_toList]; omega
  · refine (live_map (enc := encV) (fun p : Iv => p.1)).2 ?_
    refine live_of_holds encI_len (by omega) ?_ ?_
    · have := (sortWorld_grown encI 2 w g off n d' os).size; exact Nat.lt_of_lt_of_le hg this
    · have h1 := holdsK_putRowK encI 2 (Sort.ahead w n) g off la.toArray d' (holdsK_ahead encI 2 w n g off _ (hLa.holds encI_len (by omega))) (by simpa using hsz)
      have h2 := holdsK_grow encI 2 _ os g off d' (by simpa [putRowK, putRow, mapBlock, Sort.ahead] using hg) h1
      show HoldsK encI 2 _ g off d'.toList.toArray
      rw [Array.toArray_toList]
      exact h2

section
variable {P P' : Int} {A B A' B' : Option Addr} {n c m d n' c' m' d' : Nat} {S D S' D' : List (Int × Int)} {w : World}
theorem few_any (h : IsCal w P A n c B m d S D) : Gives Try.prog 33 #[CalV P A n c B m d] w (.bool (decide (S.length ≤ 25) && decide (D.length ≤ 25))) := by
  obtain ⟨rfl, rfl, -, -, h3, h4⟩ := h
  apply Gives.ret
  have key : (decide ((S.length : Int) ≤ 25) = false ∧ (decide (S.length ≤ 25) && decide (D.length ≤ 25)) = false) ∨ (decide ((S.length : Int) ≤ 25) = true ∧ decide ((D.length : Int) ≤ 25) = (decide (S.length ≤ 25) && decide (D.length ≤ 25))) := by
    by_cases h1 : S.length ≤ 25
    · refine .inr ⟨by simp; omega, ?_⟩
      rw [decide_eq_true h1, Bool.true_and, Bool.eq_iff_iff]; simp; omega
    · refine .inl ⟨by simp; omega, ?_⟩
      rw [decide_eq_false h1]; rfl
  rcases key with ⟨k1, e⟩ | ⟨k1, e⟩
  · rw [e]
    clear e
    go_enter Try.func33, Try.ntmps33
    go_wp2_with fail
    go_returns
    exact ⟨rfl, by (repeat (first | (with_reducible exact LaterOf.refl _) | (with_reducible refine LaterOf.alloc ?_ _) | (with_reducible refine LaterOf.drew ?_) | (with_reducible refine LaterOf.drewN ?_ _) | (with_reducible refine LaterOf.later ?_ _) | (with_reducible refine LaterOf.setCell ?_ (by first | exact Nat.le_refl _ | (simp; done) | omega | (simp; omega)) _)))⟩
  · rw [← e]
    clear e
    go_enter Try.func33, Try.ntmps33
    go_wp2_with fail
    go_returns
    exact ⟨rfl, by (repeat (first | (with_reducible exact LaterOf.refl _) | (with_reducible refine LaterOf.alloc ?_ _) | (with_reducible refine LaterOf.drew ?_) | (with_reducible refine LaterOf.drewN ?_ _) | (with_reducible refine LaterOf.later ?_ _) | (with_reducible refine LaterOf.setCell ?_ (by first | exact Nat.le_refl _ | (simp; done) | omega | (simp; omega)) _)))⟩
theorem own_any (P : Int) (A B : Option Addr) (n c m d : Nat) (w : World) : Gives Try.prog 35 #[CalV P A n c B m d] w (CalV P A n c B m d) := by
  apply Gives.ret
  go_enter Try.func35, Try.ntmps35
  go_wp2_with fail
  go_returns
  exact ⟨rfl, by (repeat (first | (with_reducible exact LaterOf.refl _) | (with_reducible refine LaterOf.alloc ?_ _) | (with_reducible refine LaterOf.drew ?_) | (with_reducible refine LaterOf.drewN ?_ _) | (with_reducible refine LaterOf.later ?_ _) | (with_reducible refine LaterOf.setCell ?_ (by first | exact Nat.le_refl _ | (simp; done) | omega | (simp; omega)) _)))⟩
theorem equal_any (h : IsCal w P A n c B m d S D) (h' : IsCal w P' A' n' c' B' m' d' S' D') (hn : S.length < 4611686018427387904) : Gives Try.prog 37 #[CalV P A n c B m d, CalV P' A' n' c' B' m' d'] w (.bool (P == P' && (decide (S = S') && decide (D = D')))) := by
  obtain ⟨rfl, rfl, h1, h2, h3, h4⟩ := h
  obtain ⟨rfl, rfl, g1, g2, g3, g4⟩ := h'
  apply Gives.ret
  have C1 := fun W hW => sameIvs_any A A' c c' S S' W (h1.of hW) (g1.of hW) h3 g3
  have C2 := fun W hW => sameIvs_any B B' d d' D D' W (h2.of hW) (g2.of hW) h4 g4
  clear h1 h2 g1 g2
  cases hp : (P == P')
  · go_enter Try.func37, Try.ntmps37
    go_wp2_with fail
    go_returns
    exact ⟨rfl, by (repeat (first | (with_reducible exact LaterOf.refl _) | (with_reducible refine LaterOf.alloc ?_ _) | (with_reducible refine LaterOf.drew ?_) | (with_reducible refine LaterOf.drewN ?_ _) | (with_reducible refine LaterOf.later ?_ _) | (with_reducible refine LaterOf.setCell ?_ (by first | exact Nat.le_refl _ | (simp; done) | omega | (simp; omega)) _)))⟩
  · generalize decide (S = S') = q at *
    cases q
    · go_enter Try.func37, Try.ntmps37
      go_wp2_with fail
      refine (C1 _ (by (repeat (first | (with_reducible exact SinceOf.refl _) | (with_reducible assumption) | (with_reducible refine SinceOf.alloc ?_ _) | (with_reducible refine SinceOf.drew ?_) | (with_reducible refine SinceOf.drewN ?_ _) | (with_reducible refine SinceOf.later ?_ _) | (with_reducible refine SinceOf.further ?_ _) | (with_reducible refine SinceOf.setCell ?_ (by first | exact Nat.le_refl _ | (simp; done) | omega | (simp; omega)) _))))).calls.mono ?_
      rintro e _ ⟨rfl, x1, rfl⟩
      go_wp2_with fail
      go_returns
      exact ⟨rfl, by (repeat (first | (with_reducible exact LaterOf.refl _) | (with_reducible refine LaterOf.alloc ?_ _) | (with_reducible refine LaterOf.drew ?_) | (with_reducible refine LaterOf.drewN ?_ _) | (with_reducible refine LaterOf.later ?_ _) | (with_reducible refine LaterOf.setCell ?_ (by first | exact Nat.le_refl _ | (simp; done) | omega | (simp; omega)) _)))⟩
    · generalize decide (D = D') = r at *
      go_enter Try.func37, Try.ntmps37
      go_wp2_with fail
      refine (C1 _ (by (repeat (first | (with_reducible exact SinceOf.refl _) | (with_reducible assumption) | (with_reducible refine SinceOf.alloc ?_ _) | (with_reducible refine SinceOf.drew ?_) | (with_reducible refine SinceOf.drewN ?_ _) | (with_reducible refine SinceOf.later ?_ _) | (with_reducible refine SinceOf.further ?_ _) | (with_reducible refine SinceOf.setCell ?_ (by first | exact Nat.le_refl _ | (simp; done) | omega | (simp; omega)) _))))).calls.mono ?_
      rintro e _ ⟨rfl, x1, rfl⟩
      go_wp2_with fail
      refine (C2 _ (by (repeat (first | (with_reducible exact SinceOf.refl _) | (with_reducible assumption) | (with_reducible refine SinceOf.alloc ?_ _) | (with_reducible refine SinceOf.drew ?_) | (with_reducible refine SinceOf.drewN ?_ _) | (with_reducible refine SinceOf.later ?_ _) | (with_reducible refine SinceOf.further ?_ _) | (with_reducible refine SinceOf.setCell ?_ (by first | exact Nat.le_refl _ | (simp; done) | omega | (simp; omega)) _))))).calls.mono ?_
      rintro e _ ⟨rfl, x2, rfl⟩
      go_wp2_with fail
      go_returns
      exact ⟨rfl, by (repeat (first | (with_reducible exact LaterOf.refl _) | (with_reducible refine LaterOf.alloc ?_ _) | (with_reducible refine LaterOf.drew ?_) | (with_reducible refine LaterOf.drewN ?_ _) | (with_reducible refine LaterOf.later ?_ _) | (with_reducible refine LaterOf.setCell ?_ (by first | exact Nat.le_refl _ | (simp; done) | omega | (simp; omega)) _)))⟩
end
end Go.Proofs.Ytbceogoeoojdbaa
