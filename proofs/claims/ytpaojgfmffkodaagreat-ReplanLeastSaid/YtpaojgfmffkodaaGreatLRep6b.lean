/- Layer 54: the stable sort of few jobs by their due times. -/
import Derived.Test.YtpaojgfmffkodaaGreatLRep2
import Derived.Test.YtpaojgfmffkodaaGreatLRepP12
import Derived.Test.YtpaojgfmffkodaaGreatLRepLay
import Derived.Shelf.SlSortCmp.Insertion
import Derived.Shelf.Sort.Plain
import Derived.Shelf.Slices.In.SortNone
namespace Go.Proofs.YtpaojgfmffkodaaGreat
set_option linter.unusedVariables false
set_option linter.unusedSimpArgs false
open Go.RowKit Go.Sort
attribute [local go_sem ↓] Go.wp_at_zero Go.wp_at_succ
abbrev JobIx (n : Nat) : Type := { j : Int // 0 ≤ j ∧ j < n }
def encX {n : Nat} (x : JobIx n) : Value := .int .i64 x.1
theorem encX_one {n : Nat} : OneCell (encX (n := n)) := fun x => rfl
theorem sortWorld1_grown {α : Type} [Inhabited α] (enc : α → Value) (w : World) (g off n : Nat) (d : Array α) (os : Array Obj) : w.grownBy (sortWorld enc w g off n d os) (some g) := by
  refine ⟨rfl, rfl, rfl, ?_, fun i hi hne => ?_⟩
  · simp [sortWorld, grow, putRow, mapBlock, Sort.ahead]
  · have hne' : i ≠ g := fun e => hne (by rw [e])
    simp only [sortWorld, grow, putRow, mapBlock, Sort.ahead]
    rw [Array.getElem?_append_left (by simpa using hi), Array.getElem?_modify, if_neg (fun e => hne' e.symm)]
set_option maxRecDepth 100000 in
set_option maxHeartbeats 4000000 in
theorem restCmp_any (gb : Nat) (A : Option Addr) (c : Nat) (L : List JobR) (a b : Int) (w : World) (hO : Nonempty (Old w gb)) (hc : w.cell? ⟨gb, 3, none⟩ = some (.slice A L.length c)) (h : IsRow encJ 6 w A c L) (hL : L.length < 4611686018427387904) (ha : 0 ≤ a ∧ a < L.length) (hb : 0 ≤ b ∧ b < L.length) :
    Calls Tryz.prog 89 #[.int .i64 a, .int .i64 b, .pointer (some ⟨gb, 0, none⟩)] w fun e w' => e = .returned (.int .i64 (cmpi (dueOf L a) (dueOf L b))) ∧ ∃ q, w' = w.drewN q := by
  obtain ⟨i, rfl⟩ : ∃ i : Nat, a = i := ⟨a.toNat, by omega⟩
  obtain ⟨k, rfl⟩ : ∃ k : Nat, b = k := ⟨b.toNat, by omega⟩
  have hi : i < L.length := by omega
  have hk : k < L.length := by omega
  unfold dueOf
  rw [jobAt_at hi, jobAt_at hk]
  obtain ⟨g, off, rfl, hr⟩ := h.at_ (by omega)
  have hOg := hr.there
  have c0 := hr.j4 i hi
  have c1 := hr.j4 k hk
  generalize L[i].due = u at *
  generalize L[k].due = v at *
  clear hr h
  go_enter Tryz.func89, Tryz.ntmps89
  go_wp2_with fail
  go_region_held3 (fun w' => w'.cell? ⟨gb, 3, none⟩ = some (.slice (some ⟨g, off, none⟩) L.length c) ∧ w'.cell? ⟨g, off + i * 6 + 4, none⟩ = some (.int .i64 u) ∧ w'.cell? ⟨g, off + k * 6 + 4, none⟩ = some (.int .i64 v)) ((simp [go_sem, *]))
    (first | (go_at_call 40; refine (cmpInt_any _ _ _).mono ?_; rintro e w' ⟨rfl, rfl⟩))
  all_goals
    go_wp2_with fail
    go_returns
    exact ⟨rfl, 1, rfl⟩
theorem restReads (n : Nat) [Inhabited (JobIx n)] (gb blk off size : Nat) (A : Option Addr) (c : Nat) (L : List JobR) (w : World) (hn : n = L.length) (hO : Nonempty (Old w gb)) (hc : w.cell? ⟨gb, 3, none⟩ = some (.slice A L.length c)) (h : IsRow encJ 6 w A c L) (hL : L.length < 4611686018427387904) (h1 : gb ≠ blk) (h2 : ∀ b, blockOf A = some b → b ≠ blk) :
    CmpReads Tryz.prog 89 #[.pointer (some ⟨gb, 0, none⟩)] (encX (n := n)) (fun x y => cmpi (dueOf L x.1) (dueOf L y.1)) blk off size w := by
  subst hn
  intro m os dk _ x y
  have hlt := hO.elim fun q => q.lt
  have hg := sortWorld1_grown (encX (n := L.length)) w blk off m dk os
  have hc' : (sortWorld (encX (n := L.length)) w blk off m dk os).cell? ⟨gb, 3, none⟩ = some (.slice A L.length c) := by
    rw [World.grownBy.cell_far hg _ hlt (by simpa using h1)]; exact hc
  have hr' : IsRow encJ 6 (sortWorld (encX (n := L.length)) w blk off m dk os) A c L := by
    refine ⟨h.1, ?_⟩
    rcases h.2 with h3 | ⟨g, o, rfl, hr⟩
    · exact .inl h3
    · refine .inr ⟨g, o, rfl, RowAt.grown hr hg ?_⟩
      have := h2 g rfl
      simpa using this
  exact restCmp_any gb A c L x.1 y.1 _ ⟨⟨Nat.lt_of_lt_of_le hlt hg.size⟩⟩ hc' hr' hL x.2 y.2
set_option maxRecDepth 100000 in
set_option maxHeartbeats 4000000 in
theorem insertJobs_any (g c gb : Nat) (A : Option Addr) (cA : Nat) (L : List JobR) (l : List Int) (w : World) (hL : Live encN 1 w g 0 l) (hn : l.length < 4611686018427387904) (hm : ∀ j ∈ l, 0 ≤ j ∧ j < L.length) (h0 : 0 < L.length)
    (hO : Nonempty (Old w gb)) (hc : w.cell? ⟨gb, 3, none⟩ = some (.slice A L.length cA)) (h : IsRow encJ 6 w A cA L) (hLl : L.length < 4611686018427387904) (h1 : gb ≠ g) (h2 : ∀ b, blockOf A = some b → b ≠ g) :
    Calls Tryz.prog 154 #[.slice (some ⟨g, 0, none⟩) l.length c, .int .i64 0, .int .i64 l.length, .func (.func 89) #[] #[.pointer (some ⟨gb, 0, none⟩)]] w fun e w' => e = .returned (.tuple #[]) ∧ Live encN 1 w' g 0 (sortD (dueOf L) l) ∧ w.grownBy w' (some g) := by
  have eg : ∀ args w, (callFunc 89 args).run Tryz.prog w = .ok (.enter 89 args) w := Go.Proofs.enters_of Tryz.func89 (by kernel_rfl) rfl
  haveI : Inhabited (JobIx L.length) := ⟨⟨0, by omega, by omega⟩⟩
  obtain ⟨la, rfl⟩ : ∃ la : List (JobIx L.length), l = la.map (·.1) := ⟨l.attach.map fun p => ⟨p.1, hm p.1 p.2⟩, by rw [List.map_map]; exact (List.attach_map_subtype_val l).symm⟩
  have hH : Holds (encX (n := L.length)) w g 0 la.toArray := by
    intro j hj
    have hj' : j < la.length := by simpa using hj
    have hj2 : j < (la.map (·.1)).length := by simpa using hj'
    refine ⟨?_, ?_⟩
    · rw [hL.row.n0 j hj2, getElem!_pos _ j hj]
      simp [encX]
    · exact hL.free j (by simpa using hj')
  have hgl : g < w.heap.size := hL.row.there.elim fun h => h.lt
  have hcon := Any.insertionSortCmpFunc_one Tryz.insInt (encX (n := L.length)) encX_one (fun x y => cmpi (dueOf L x.1) (dueOf L y.1)) 89 #[.pointer (some ⟨gb, 0, none⟩)] g 0 c 0 la.toArray.size la.toArray w eg (restReads L.length gb g 0 la.toArray.size A cA L w rfl hO hc h hLl h1 h2) hH (Nat.zero_le _) (Nat.le_refl _) (by simpa using hn)
  change Calls Tryz.prog 154 _ _ _ at hcon
  simp only [List.size_toArray] at hcon
  rw [List.length_map]
  refine hcon.mono ?_
  rintro e w' ⟨rfl, n, rfl⟩
  have hs := insertion_sortA (fun x : JobIx L.length => dueOf L x.1) (ltOf fun x y => cmpi (dueOf L x.1) (dueOf L y.1)) (fun x y => by
    show decide (cmpi (dueOf L x.1) (dueOf L y.1) < 0) = decide (dueOf L x.1 < dueOf L y.1)
    rcases cmpi_cases (dueOf L x.1) (dueOf L y.1) with ⟨a, b⟩ | ⟨a, a2, b⟩ | ⟨a, a2, b⟩ <;> rw [b] <;> simp [a]) la
  have hmap := foldA_map (dueOf L) (fun x : JobIx L.length => x.1) la []
  rw [hs]
  have hlen : (la.foldl (fun out i => insA (fun x : JobIx L.length => dueOf L x.1) i out) []).length = la.length := by
    have h3 := congrArg List.length hmap
    rw [List.length_map] at h3
    rw [h3]
    have := (sortD_perm (dueOf L) (la.map (·.1))).length_eq
    rw [List.length_map] at this
    exact this
  have e2 : sortD (dueOf L) (la.map (·.1)) = (la.foldl (fun out i => insA (fun x : JobIx L.length => dueOf L x.1) i out) []).map (·.1) := hmap.symm
  rw [e2]
  generalize la.foldl (fun out i => insA (fun x : JobIx L.length => dueOf L x.1) i out) [] = ls at *
  have hg2 := sortWorld1_grown (encX (n := L.length)) w g 0 n ls.toArray #[]
  rw [sortWorld_none] at hg2
  have hp := holds_putRow (encX (n := L.length)) w g 0 la.toArray ls.toArray hH (by simpa using hlen)
  refine ⟨rfl, ⟨⟨fun i hi j u hu => ?_, ⟨⟨Nat.lt_of_lt_of_le hgl hg2.size⟩⟩⟩, fun j hj => ?_⟩, hg2⟩
  · have hi' : i < ls.length := by simpa using hi
    have hj : j = 0 := by
      have := (List.getElem?_eq_some_iff.1 hu).1
      simp [encN] at this
      omega
    subst hj
    simp [encN] at hu
    subst hu
    have := (hp i (by simpa using hi')).1
    rw [getElem!_pos _ i (by simpa using hi')] at this
    simpa [encX] using this
  · have hj' : j < ls.length := by simpa using hj
    exact (hp j (by simpa using hj')).2
set_option maxRecDepth 100000 in
set_option maxHeartbeats 4000000 in
theorem stableJobs_any (g c gb : Nat) (A : Option Addr) (cA : Nat) (L : List JobR) (l : List Int) (w : World) (hL : Live encN 1 w g 0 l) (hn : l.length < 20) (hm : ∀ j ∈ l, 0 ≤ j ∧ j < L.length) (h0 : 0 < L.length)
    (hO : Nonempty (Old w gb)) (hc : w.cell? ⟨gb, 3, none⟩ = some (.slice A L.length cA)) (h : IsRow encJ 6 w A cA L) (hLl : L.length < 4611686018427387904) (h1 : gb ≠ g) (h2 : ∀ b, blockOf A = some b → b ≠ g) :
    Calls Tryz.prog 88 #[.slice (some ⟨g, 0, none⟩) l.length c, .func (.func 89) #[] #[.pointer (some ⟨gb, 0, none⟩)]] w fun e w' => e = .returned (.tuple #[]) ∧ Live encN 1 w' g 0 (sortD (dueOf L) l) ∧ w.grownBy w' (some g) := by
  have I := insertJobs_any g c gb A cA L l w hL (by omega) hm h0 hO hc h hLl h1 h2
  have g1 : decide ((20 : Int) ≤ (l.length : Int)) = false := decide_eq_false (by omega)
  have g2 : decide ((20 : Int) < (l.length : Int)) = false := decide_eq_false (by omega)
  have S : Calls Tryz.prog 123 #[.slice (some ⟨g, 0, none⟩) l.length c, .int .i64 l.length, .func (.func 89) #[] #[.pointer (some ⟨gb, 0, none⟩)]] w fun e w' => e = .returned (.tuple #[]) ∧ Live encN 1 w' g 0 (sortD (dueOf L) l) ∧ w.grownBy w' (some g) := by
    go_enter Tryz.func123, Tryz.ntmps123
    go_wp2_with fail
    go_loopg [7, 8] 0 (fun gas s7 s8 wr => s7 = .int .i64 0 ∧ s8 = .int .i64 20 ∧ wr = w)
    case atStart => exact ⟨rfl, rfl, rfl⟩
    case round =>
      obtain ⟨rfl, rfl, rfl⟩ := hrel
      go_wp2_with fail
      go_at_call 154
      refine I.mono ?_
      rintro e w' ⟨rfl, hl, hg⟩
      have HR := Lib.hid (And.intro hl hg)
      clear hl hg I
      go_wp2_with fail
      go_loopg [6] 0 (fun gas s6 wr => s6 = .int .i64 20 ∧ wr = w')
      case atStart => exact ⟨rfl, rfl⟩
      case round =>
        obtain ⟨rfl, rfl⟩ := hrel
        go_wp2_with fail
        go_end0
        exact ⟨rfl, HR.out.1, HR.out.2⟩
  clear I
  go_enter Tryz.func88, Tryz.ntmps88
  go_wp2_with fail
  go_at_call 123
  refine S.mono ?_
  rintro e w' ⟨rfl, hl, hg⟩
  have HR := Lib.hid (And.intro hl hg)
  clear hl hg S
  go_wp2_with fail
  go_end0
  exact ⟨rfl, HR.out.1, HR.out.2⟩
end Go.Proofs.YtpaojgfmffkodaaGreat
/- Layer 54: states in memory; the jobs without slots in their order. -/
namespace Go.Proofs.YtpaojgfmffkodaaGreat
set_option linter.unusedVariables false
set_option linter.unusedSimpArgs false
open Go.RowKit Go.Sort
attribute [local go_sem ↓] Go.wp_at_zero Go.wp_at_succ
structure StR where
  s : ShopR
  A : Option Addr
  c : Nat
  L : List JobR
  gA : Option Addr
  gc : Nat
  bg : List SlotR
  pA : Option Addr
  pc : Nat
  pd : List SlotR
  dA : Option Addr
  dc : Nat
  dr : List Bool
abbrev stateV (x : StR) : Value := .agg #[.slice x.s.A x.s.cals.length x.s.c, .slice x.s.B x.s.rows.length x.s.d, .int .i64 x.s.most, .slice x.A x.L.length x.c, .slice x.gA x.bg.length x.gc, .slice x.pA x.pd.length x.pc, .slice x.dA x.dr.length x.dc]
def erSt (x : StR) : StP := ⟨erS x.s, erL x.L, x.bg, x.pd, x.dr⟩
structure IsState (w : World) (x : StR) : Prop where
  shop : IsShop w x.s
  jobs : IsJobs w x.A x.c x.L
  bg : IsSlots w x.gA x.gc x.bg
  pd : IsSlots w x.pA x.pc x.pd
  dr : IsRow encB 1 w x.dA x.dc x.dr
theorem IsState.of {w w' : World} {x : StR} (h : IsState w x) (hs : SinceOf w w') : IsState w' x := ⟨h.shop.of hs, h.jobs.of hs, h.bg.of hs, h.pd.of hs, h.dr.of hs⟩
theorem freeL_succ (x : StP) (l : List SlotR) (k : Nat) : freeL x l (k + 1) = if freeJ x l k = true then freeL x l k ++ [(k : Int)] else freeL x l k := by
  unfold freeL
  rw [List.range_succ, List.filter_append, List.map_append]
  by_cases h : freeJ x l k = true
  · rw [if_pos h, List.filter_cons_of_pos h]; rfl
  · rw [if_neg h, List.filter_cons_of_neg h]; simp
theorem freeL_length_le (x : StP) (l : List SlotR) (k : Nat) : (freeL x l k).length ≤ k := by
  unfold freeL
  rw [List.length_map]
  have := List.length_filter_le (freeJ x l) (List.range k)
  rwa [List.length_range] at this
set_option maxRecDepth 100000 in
set_option maxHeartbeats 4000000 in
theorem stableNone_any (gb : Nat) (w : World) : Calls Tryz.prog 88 #[.slice none 0 0, .func (.func 89) #[] #[.pointer (some ⟨gb, 0, none⟩)]] w fun e w' => e = .returned (.tuple #[]) ∧ w' = w := by
  have I : Calls Tryz.prog 154 #[.slice none 0 0, .int .i64 0, .int .i64 0, .func (.func 89) #[] #[.pointer (some ⟨gb, 0, none⟩)]] w fun e w' => e = .returned (.tuple #[]) ∧ w' = w := by
    go_enter Tryz.func154, Tryz.ntmps154
    go_wp2_with fail
    go_loopg [8] 0 (fun gas s8 wr => s8 = .int .i64 1 ∧ wr = w)
    case atStart => exact ⟨rfl, rfl⟩
    case round =>
      obtain ⟨rfl, rfl⟩ := hrel
      go_wp2_with fail
      go_end0
      exact ⟨rfl, rfl⟩
  have S : Calls Tryz.prog 123 #[.slice none 0 0, .int .i64 0, .func (.func 89) #[] #[.pointer (some ⟨gb, 0, none⟩)]] w fun e w' => e = .returned (.tuple #[]) ∧ w' = w := by
    go_enter Tryz.func123, Tryz.ntmps123
    go_wp2_with fail
    go_loopg [7, 8] 0 (fun gas s7 s8 wr => s7 = .int .i64 0 ∧ s8 = .int .i64 20 ∧ wr = w)
    case atStart => exact ⟨rfl, rfl, rfl⟩
    case round =>
      obtain ⟨rfl, rfl, rfl⟩ := hrel
      go_wp2_with fail
      go_at_call 154
      refine I.mono ?_
      rintro e w' ⟨rfl, rfl⟩
      go_wp2_with fail
      go_loopg [6] 0 (fun gas s6 wr => s6 = .int .i64 20 ∧ wr = w')
      case atStart => exact ⟨rfl, rfl⟩
      case round =>
        obtain ⟨rfl, rfl⟩ := hrel
        go_wp2_with fail
        go_end0
        exact ⟨rfl, rfl⟩
  clear I
  go_enter Tryz.func88, Tryz.ntmps88
  go_wp2_with fail
  go_at_call 123
  refine S.mono ?_
  rintro e w' ⟨rfl, rfl⟩
  go_wp2_with fail
  go_end0
  exact ⟨rfl, rfl⟩
set_option maxRecDepth 100000 in
set_option maxHeartbeats 8000000 in
theorem rest_any (x : StR) (B : Option Addr) (d : Nat) (l : List SlotR) (w : World) (hx : IsState w x) (hl : IsSlots w B d l) (hll : l.length < 1073741824) (hdr : x.dr.length = x.L.length) (hL : x.L.length < 20) :
    Calls Tryz.prog 53 #[stateV x, .slice B l.length d] w fun e w' => ∃ (C : Option Addr) (c' : Nat), e = .returned (.slice C (restV (erSt x) l).length c') ∧ IsInts w' C c' (restV (erSt x) l) ∧ (∀ b, blockOf C = some b → w.heap.size ≤ b ∧ b < w'.heap.size) ∧ SinceOf w w' := by
  obtain ⟨sx, A, c, L, gA, gc, bg, pA, pc, pd, dA, dc, dr⟩ := x
  obtain ⟨⟨sA, sc, cals, sB, sd, R, most⟩, hsx⟩ : ∃ s, s = sx := ⟨_, rfl⟩
  subst hsx
  simp only at hdr hL
  have hres : restV (erSt ⟨⟨sA, sc, cals, sB, sd, R, most⟩, A, c, L, gA, gc, bg, pA, pc, pd, dA, dc, dr⟩) l = sortD (dueOf L) (freeL (erSt ⟨⟨sA, sc, cals, sB, sd, R, most⟩, A, c, L, gA, gc, bg, pA, pc, pd, dA, dc, dr⟩) l L.length) := by
    unfold restV
    rw [show (erSt ⟨⟨sA, sc, cals, sB, sd, R, most⟩, A, c, L, gA, gc, bg, pA, pc, pd, dA, dc, dr⟩).L = erL L from rfl, erL_length, show dueOf (erL L) = dueOf L from funext fun j => due_er L j]
  rw [hres]
  have hfr : ∀ k, freeJ (erSt ⟨⟨sA, sc, cals, sB, sd, R, most⟩, A, c, L, gA, gc, bg, pA, pc, pd, dA, dc, dr⟩) l k = (!dr.getD k false && !l.any (fun y => y.job == (k : Int))) := fun k => rfl
  have hfs := freeL_succ (erSt ⟨⟨sA, sc, cals, sB, sd, R, most⟩, A, c, L, gA, gc, bg, pA, pc, pd, dA, dc, dr⟩) l
  have hfl := freeL_length_le (erSt ⟨⟨sA, sc, cals, sB, sd, R, most⟩, A, c, L, gA, gc, bg, pA, pc, pd, dA, dc, dr⟩) l
  have hfm := fun k (j : Int) (hj : j ∈ freeL (erSt ⟨⟨sA, sc, cals, sB, sd, R, most⟩, A, c, L, gA, gc, bg, pA, pc, pd, dA, dc, dr⟩) l k) => freeL_mem.1 hj
  have hf0 : freeL (erSt ⟨⟨sA, sc, cals, sB, sd, R, most⟩, A, c, L, gA, gc, bg, pA, pc, pd, dA, dc, dr⟩) l 0 = [] := rfl
  generalize hF : freeL (erSt ⟨⟨sA, sc, cals, sB, sd, R, most⟩, A, c, L, gA, gc, bg, pA, pc, pd, dA, dc, dr⟩) l = F at *
  obtain ⟨i0, hi, hz0, hz1, hz2⟩ := info_parts infoInt
  have HI := Lib.hid (And.intro hi (And.intro hz0 (And.intro hz1 hz2)))
  have H := Lib.hid (And.intro hx.jobs (And.intro hl (And.intro hx.dr (And.intro hfs (And.intro hfl (And.intro hfm hfr))))))
  have HDR := Lib.hid hdr
  show Calls Tryz.prog _ #[.agg #[.slice sA cals.length sc, .slice sB R.length sd, .int .i64 most, .slice A L.length c, .slice gA bg.length gc, .slice pA pd.length pc, .slice dA dr.length dc], .slice B l.length d] w _
  rw [hdr]
  clear hx hl hi hz0 hz1 hz2 hres hfs hfl hfm hfr hF hdr
  go_enter Tryz.func53, Tryz.ntmps53
  go_wp2_with fail
  go_loopg [5, 10] L.length (fun gas s5 s10 wr => ∃ (k : Nat) (C : Option Addr) (c1 : Nat), k ≤ L.length ∧ L.length - k ≤ gas ∧ s5 = .slice C (F k).length c1 ∧ s10 = .int .i64 k ∧ Owns encN 1 (w.heap.size + 1) 3 wr C c1 (F k) ∧ (F k = [] → C = none ∧ c1 = 0) ∧ SinceOf (w.alloc (.cells #[.slice sA cals.length sc, .slice sB R.length sd, .int .i64 most, .slice A L.length c, .slice gA bg.length gc, .slice pA pd.length pc, .slice dA L.length dc] 42)) wr)
  case atStart => exact ⟨0, none, 0, by omega, by omega, by rw [hf0]; rfl, rfl, by rw [hf0]; exact Owns.nil _ _ _ _ _, fun _ => ⟨rfl, rfl⟩, SinceOf.refl _⟩
  case round =>
    obtain ⟨k, C, c1, hk, hgas, rfl, rfl, hown, hnil, ⟨z, rfl⟩⟩ := hrel
    by_cases hlt : k < L.length
    · have hs := H.out.2.2.2.1 k
      rw [H.out.2.2.2.2.2.2 k] at hs
      have hsz := z.size
      simp at hsz
      have hfk := H.out.2.2.2.2.1 k
      obtain ⟨gd, od, rfl, hrd⟩ := (H.out.2.2.1.of (show SinceOf w z.wd from Sx)).at_ (by have := HDR.out; omega)
      have hOd := hrd.there
      have hdr := HDR.out
      have hkd : k < dr.length := by omega
      have d0 : z.wd.cell? ⟨gd, od + k, none⟩ = some (.bool dr[k]) := by
        have := hrd.cells k hkd 0 (.bool dr[k]) rfl
        simpa using this
      rw [List.getD_eq_getElem?_getD, List.getElem?_eq_getElem hkd, Option.getD_some] at hs
      generalize dr[k] = dk at *
      clear hdr
      have HC := fun g W (hO : Nonempty (Old W g)) (hc : W.cell? ⟨g, 0, none⟩ = some (.int .i64 (k : Int))) (hW : SinceOf w W) => containsRest_any (.pointer (some ⟨g, 0, none⟩)) (fun y => y.job == (k : Int)) B d l W (H.out.2.1.of hW) (by omega) (fun W2 hW2 y hy => by
        have hO2 : Nonempty (Old W2 g) := oldS_since hW2 hO
        exact restCl_any y k g W2 (cell_since hW2 hc))
      generalize l.any (fun y => y.job == (k : Int)) = lk at *
      have HO := Lib.hid (And.intro hown (And.intro hs hnil))
      clear hrd hown hs hnil
      cases dk
      · cases lk
        · have e : F (k + 1) = F k ++ [(k : Int)] := by have := HO.out.2.1; simpa using this
          go_wp2_with (first
            | (go_at_call 68; refine (HC _ _ (by infer_instance) (by simp [go_sem]) Sx).calls.mono ?_; rintro e _ ⟨rfl, z2, rfl⟩; have hz2 := z2.size; (try simp at hz2))
            | (at_builtin; refine wpList_append_row rfl (.tmp 25) (.tmp 27) 57 rfl encN_len (by omega) encN_one i0 _ 8 Tryz.underlying57 HI.out.1 HI.out.2.1 HI.out.2.2.1 HI.out.2.2.2 rfl (l := F k) (A := C) (c := c1) (base := w.heap.size + 1) rfl (HO.out.1.of Sx) (m := [(k : Int)]) rfl (rowN_at _ _ _ _ (by first | rfl | simp)) (by unfold maxLen; simp; omega) (by simp; omega) (by simp; omega) ?_; intro E3 f3 w3 hown3 hgr3 hbl3))
          go_roundg (L.length - (k + 1))
          case measure => omega
          case rel =>
            refine ⟨k + 1, E3, f3, hlt, Nat.le_refl _, by rw [e, List.length_append]; rfl, by go_num, by rw [e]; exact hown3, (fun h => by rw [e] at h; simp at h), ?_⟩
            refine SinceOf.grown Sx hgr3 ?_
            intro q hq
            have := (HO.out.1.below q hq).1
            simp
            omega
        · have e : F (k + 1) = F k := by have := HO.out.2.1; simpa using this
          go_wp2_with (go_at_call 68; refine (HC _ _ (by infer_instance) (by simp [go_sem]) Sx).calls.mono ?_; rintro e _ ⟨rfl, z2, rfl⟩)
          go_roundg (L.length - (k + 1))
          case measure => omega
          case rel => exact ⟨k + 1, C, c1, hlt, Nat.le_refl _, by rw [e], by go_num, by rw [e]; exact HO.out.1.of Sx, (fun h => HO.out.2.2 (by rw [← e]; exact h)), Sx⟩
      · have e : F (k + 1) = F k := by have := HO.out.2.1; simpa using this
        go_wp2_with fail
        go_roundg (L.length - (k + 1))
        case measure => omega
        case rel => exact ⟨k + 1, C, c1, hlt, Nat.le_refl _, by rw [e], by go_num, by rw [e]; exact HO.out.1.of Sx, (fun h => HO.out.2.2 (by rw [← e]; exact h)), Sx⟩
    · have hkl : k = L.length := by omega
      rw [hkl] at hown hnil
      have hfk := H.out.2.2.2.2.1 L.length
      have hmm : ∀ j ∈ F L.length, 0 ≤ j ∧ j < L.length := fun j hj => by
        obtain ⟨i, rfl, h1, -⟩ := H.out.2.2.2.2.2.1 L.length j hj
        omega
      have hsz := z.size
      simp at hsz
      rw [hkl]
      obtain ⟨fl, hfl⟩ : ∃ fl, F L.length = fl := ⟨_, rfl⟩
      have HFL := Lib.hid hfl
      rw [hfl] at hown hnil hfk hmm ⊢
      clear hfl
      cases fl with
      | nil =>
        obtain ⟨rfl, rfl⟩ := hnil rfl
        have HS := stableNone_any w.heap.size z.wd
        clear hown hnil hkl
        go_wp2_with fail
        go_at_call 88
        refine HS.mono ?_
        rintro e w' ⟨rfl, rfl⟩
        go_wp2_with fail
        go_returns
        exact ⟨none, 0, by rw [HFL.out]; rfl, by rw [HFL.out]; exact IsRow.nil _ _ _, (by intro b hb; cases hb), Sx⟩
      | cons j0 r0 =>
        obtain ⟨g, rfl, hg0, hlive⟩ := Owns.live encN_len hown (by simp)
        have HS := stableJobs_any g c1 w.heap.size A c L (j0 :: r0) z.wd hlive (by omega) hmm (by simp at hfk; omega) (by infer_instance) (by simp [go_sem]) (H.out.1.row.of (show SinceOf w z.wd from Sx)) (by omega) (by omega) (fun b hb => by
          rcases H.out.1.row.2 with h3 | ⟨g', o', rfl, hr⟩
          · exfalso
            have := (hmm j0 (by simp))
            rw [h3] at this
            simp at this
            omega
          · simp [blockOf] at hb
            subst hb
            have := hr.there.elim fun q => q.lt
            omega)
        have HB := Lib.hid (And.intro hlive hg0)
        clear hown hlive hkl hnil
        go_wp2_with fail
        go_at_call 88
        refine HS.mono ?_
        rintro e w' ⟨rfl, hl2, hgr⟩
        have HR := Lib.hid (And.intro hl2 hgr)
        clear hl2 hgr HS
        go_wp2_with fail
        go_returns
        refine ⟨some ⟨g, 0, none⟩, c1, ?_, ?_, (fun b hb => by have h9 := HR.out.1.row.there.elim fun q => q.lt; simp [blockOf] at hb; omega), ?_⟩
        · rw [HFL.out, (sortD_perm (dueOf L) (j0 :: r0)).length_eq]; first | rfl | (simp; done)
        · rw [HFL.out]; exact HR.out.1.isRow
        · refine SinceOf.grown (show SinceOf w z.wd from Sx) HR.out.2 ?_
          intro q hq
          injection hq with hq
          omega
end Go.Proofs.YtpaojgfmffkodaaGreat
/- Layer 54: slices.Sort of ints. -/
namespace Go.Proofs.YtpaojgfmffkodaaGreat
set_option linter.unusedVariables false
set_option linter.unusedSimpArgs false
open Go.RowKit Go.Sort
theorem sortInts_any (g c : Nat) (l : List Int) (w : World) (hL : Live encN 1 w g 0 l) (hn : l.length < 4611686018427387904) :
    Calls Tryz.prog 55 #[.slice (some ⟨g, 0, none⟩) l.length c] w fun e w' => e = .returned (.tuple #[]) ∧ Live encN 1 w' g 0 (sortI l) ∧ w.grownBy w' (some g) := by
  have hH : Holds (Value.int .i64) w g 0 l.toArray := by
    intro j hj
    have hj' : j < l.length := by simpa using hj
    refine ⟨?_, ?_⟩
    · rw [hL.row.n0 j hj', getElem!_pos _ j hj]
      simp
    · exact hL.free j (by simpa using hj')
  have hgl : g < w.heap.size := hL.row.there.elim fun h => h.lt
  have hcon := Any.slices_Sort_int Tryz.sortInts g 0 c l w hH hgl hn
  change Calls Tryz.prog 55 _ _ _ at hcon
  have hms : l.mergeSort (fun x y => decide (x ≤ y)) = sortI l := by
    refine sortI_unique (List.mergeSort_perm l _) ?_
    have := List.pairwise_mergeSort (le := fun x y : Int => decide (x ≤ y)) (fun a b c h1 h2 => by simp at *; omega) (fun a b => by simp; omega) l
    exact this.imp fun h => by simpa using h
  rw [hms] at hcon
  refine hcon.mono ?_
  rintro e w' ⟨rfl, n, os, rfl⟩
  have hlen : (sortI l).length = l.length := (sortI_perm l).length_eq
  generalize sortI l = ls at *
  have hg2 := sortWorld1_grown (Value.int .i64) w g 0 n ls.toArray os
  have e1 : sortWorld (Value.int .i64) w g 0 n ls.toArray os = grow (putRow (Value.int .i64) (Sort.ahead w n) g 0 ls.toArray) os := rfl
  rw [e1] at hg2
  have hp := holds_grow (Value.int .i64) _ os g 0 ls.toArray (by simpa [putRow, mapBlock, Sort.ahead] using hgl) (holds_putRow (Value.int .i64) (Sort.ahead w n) g 0 l.toArray ls.toArray (holds_ahead _ w n g 0 _ hH) (by simpa using hlen))
  refine ⟨rfl, ⟨⟨fun i hi j u hu => ?_, ⟨⟨Nat.lt_of_lt_of_le hgl hg2.size⟩⟩⟩, fun j hj => ?_⟩, hg2⟩
  · have hj : j = 0 := by
      have := (List.getElem?_eq_some_iff.1 hu).1
      simp [encN] at this
      omega
    subst hj
    simp [encN] at hu
    subst hu
    have := (hp i (by simpa using hi)).1
    rw [getElem!_pos _ i (by simpa using hi)] at this
    simpa using this
  · have hj' : j < ls.length := by simpa using hj
    exact (hp j (by simpa using hj')).2
theorem sortNone_any (p : Option Addr) (c : Nat) (w : World) : Calls Tryz.prog 55 #[.slice p 0 c] w fun e w' => e = .returned (.tuple #[]) ∧ w' = w := by
  have h := Any.slices_Sort_int_none Tryz.sortInts p c w
  change Calls Tryz.prog 55 _ _ _ at h
  exact h
theorem sortOwn_any (base : Nat) (A : Option Addr) (c : Nat) (l : List Int) (w : World) (h : Owns encN 1 base 3 w A c l) (hn : l.length < 4611686018427387904) :
    Calls Tryz.prog 55 #[.slice A l.length c] w fun e w' => e = .returned (.tuple #[]) ∧ IsInts w' A c (sortI l) ∧ w.grownBy w' (blockOf A) := by
  cases l with
  | nil =>
    refine (sortNone_any A c w).mono ?_
    rintro e w' ⟨rfl, rfl⟩
    exact ⟨rfl, h.isRow encN_len, ⟨rfl, rfl, rfl, Nat.le_refl _, fun _ _ _ => rfl⟩⟩
  | cons x r =>
    obtain ⟨g, rfl, hg0, hl⟩ := Owns.live encN_len h (by simp)
    refine (sortInts_any g c (x :: r) w hl hn).mono ?_
    rintro e w' ⟨rfl, h1, h2⟩
    exact ⟨rfl, h1.isRow, h2⟩
end Go.Proofs.YtpaojgfmffkodaaGreat
/- Layer 54: the program's Keep. -/
namespace Go.Proofs.YtpaojgfmffkodaaGreat
set_option linter.unusedVariables false
set_option linter.unusedSimpArgs false
open Go.RowKit Go.Sort
attribute [local go_sem ↓] Go.wp_at_zero Go.wp_at_succ
structure ResM where
  r : ResR
  A : Option Addr
  c : Nat
  mA : Option Addr
  mc : Nat
  lA : Option Addr
  lc : Nat
abbrev resV (x : ResM) : Value := .agg #[.slice x.A x.r.slots.length x.c, .slice x.mA x.r.moved.length x.mc, .slice x.lA x.r.left.length x.lc]
structure IsRes (w : World) (x : ResM) : Prop where
  slots : IsSlots w x.A x.c x.r.slots
  moved : IsInts w x.mA x.mc x.r.moved
  left : IsInts w x.lA x.lc x.r.left
  cap : x.r.slots.length ≤ x.c
def zeroM : ResM := ⟨noRes, none, 0, none, 0, none, 0⟩
theorem zeroM_is (w : World) : IsRes w zeroM := ⟨IsRow.nil _ _ _, IsRow.nil _ _ _, IsRow.nil _ _ _, Nat.le_refl _⟩
def FreshR (b : Nat) (y : ResM) : Prop := (∀ g, blockOf y.A = some g → b ≤ g) ∧ (∀ g, blockOf y.mA = some g → b ≤ g) ∧ ∀ g, blockOf y.lA = some g → b ≤ g
theorem zeroM_fresh (b : Nat) : FreshR b zeroM := ⟨(by intro g h; cases h), (by intro g h; cases h), (by intro g h; cases h)⟩
theorem dispAll_er (s : ShopR) (L : List JobR) : ∀ (r : List Int) (l : List SlotR) (left : List Int), dispAll (erS s) (erL L) l left r = dispAll s L l left r
  | [], l, left => rfl
  | j :: r, l, left => by
    unfold dispAll
    rw [dispatchV_er]
    cases dispatchV s L l j with
    | none => exact dispAll_er s L r _ _
    | some y => exact dispAll_er s L r _ _
theorem keepV_er (x : StR) (kept : List Int) : keepV (erSt x) kept = if keptB x.pd.length (-1) kept = true then
    if (validT x.s x.L (x.bg ++ keptL (erSt x) kept)).2 = 0 then
      (0, ⟨(dispAll x.s x.L (x.bg ++ keptL (erSt x) kept) [] (restV (erSt x) (x.bg ++ keptL (erSt x) kept))).1, sortI (movedL (erSt x) kept), sortI (dispAll x.s x.L (x.bg ++ keptL (erSt x) kept) [] (restV (erSt x) (x.bg ++ keptL (erSt x) kept))).2⟩)
    else (31, noRes)
  else (2, noRes) := by
  unfold keepV
  show (if keptB x.pd.length (-1) kept = true then if (validT (erS x.s) (erL x.L) (x.bg ++ keptL (erSt x) kept)).2 = 0 then (0, (⟨(dispAll (erS x.s) (erL x.L) (x.bg ++ keptL (erSt x) kept) [] (restV (erSt x) (x.bg ++ keptL (erSt x) kept))).1, sortI (movedL (erSt x) kept), sortI (dispAll (erS x.s) (erL x.L) (x.bg ++ keptL (erSt x) kept) [] (restV (erSt x) (x.bg ++ keptL (erSt x) kept))).2⟩ : ResR)) else (31, noRes) else (2, noRes)) = _
  rw [validT_er, dispAll_er]
def lastK (kept : List Int) (k : Nat) : Int := if k = 0 then -1 else kept.getD (k - 1) 0
theorem keptB_drop {n : Nat} {kept : List Int} {k : Nat} (h : k < kept.length) (last : Int) : keptB n last (kept.drop k) = ((decide (last < kept[k]) && decide (kept[k] < n)) && keptB n kept[k] (kept.drop (k + 1))) := by
  rw [List.drop_eq_getElem_cons h]
  rfl
theorem lastK_succ {kept : List Int} {k : Nat} (h : k < kept.length) : lastK kept (k + 1) = kept[k] := by
  unfold lastK
  rw [if_neg (by omega), Nat.add_sub_cancel, getD_at h]
theorem keptL_take (P : StP) {kept : List Int} {k : Nat} (h : k < kept.length) : keptL P (kept.take (k + 1)) = keptL P (kept.take k) ++ [P.pd.getD kept[k].toNat noSlot] := by
  unfold keptL
  rw [List.take_succ_eq_append_getElem h, List.map_append]
  rfl
theorem kept_cases {n : Nat} {kept : List Int} {k : Nat} (h : k < kept.length) (h0 : k ≠ 0 → 0 ≤ lastK kept k) :
    (keptB n (lastK kept k) (kept.drop k) = false ∧ (kept[k] < 0 ∨ (¬ kept[k] < 0 ∧ (n : Int) ≤ kept[k]) ∨ (¬ kept[k] < 0 ∧ ¬ (n : Int) ≤ kept[k] ∧ ∃ q, k = q + 1 ∧ kept[k] ≤ kept.getD q 0))) ∨
    (¬ kept[k] < 0 ∧ ¬ (n : Int) ≤ kept[k] ∧ keptB n (lastK kept k) (kept.drop k) = keptB n (lastK kept (k + 1)) (kept.drop (k + 1)) ∧ (k = 0 ∨ ∃ q, k = q + 1 ∧ ¬ kept[k] ≤ kept.getD q 0)) := by
  rw [keptB_drop h, lastK_succ h]
  by_cases a : kept[k] < 0
  · left
    refine ⟨?_, .inl a⟩
    have : ¬ lastK kept k < kept[k] := by
      by_cases e : k = 0
      · unfold lastK; rw [if_pos e]; omega
      · have := h0 e; omega
    simp [this]
  · by_cases b : (n : Int) ≤ kept[k]
    · left
      exact ⟨by simp [show ¬ kept[k] < (n : Int) by omega], .inr (.inl ⟨a, b⟩)⟩
    · by_cases e : k = 0
      · right
        refine ⟨a, b, ?_, .inl e⟩
        have : lastK kept k < kept[k] := by unfold lastK; rw [if_pos e]; omega
        simp [this, show kept[k] < (n : Int) by omega]
      · obtain ⟨q, rfl⟩ : ∃ q, k = q + 1 := ⟨k - 1, by omega⟩
        have e2 : lastK kept (q + 1) = kept.getD q 0 := by unfold lastK; rw [if_neg e, Nat.add_sub_cancel]
        rw [e2]
        by_cases c : kept[q + 1] ≤ kept.getD q 0
        · left
          exact ⟨by rw [show decide (kept.getD q 0 < kept[q + 1]) = false from decide_eq_false (by omega)]; rfl, .inr (.inr ⟨a, b, q, rfl, c⟩)⟩
        · right
          exact ⟨a, b, by rw [show decide (kept.getD q 0 < kept[q + 1]) = true from decide_eq_true (by omega), show decide (kept[q + 1] < (n : Int)) = true from decide_eq_true (by omega)]; rfl, .inr ⟨q, rfl, c⟩⟩
theorem movedL_succ (P : StP) (kept : List Int) : ∀ n : Nat, (((List.range (n + 1)).filter fun (i : Nat) => !kept.contains (i : Int)).map fun i => (P.pd.getD i noSlot).job) = if kept.contains (n : Int) = true then (((List.range n).filter fun (i : Nat) => !kept.contains (i : Int)).map fun i => (P.pd.getD i noSlot).job) else (((List.range n).filter fun (i : Nat) => !kept.contains (i : Int)).map fun i => (P.pd.getD i noSlot).job) ++ [(P.pd.getD n noSlot).job] := by
  intro n
  rw [List.range_succ, List.filter_append, List.map_append]
  by_cases h : kept.contains (n : Int) = true
  · rw [if_pos h, List.filter_cons_of_neg (by rw [h]; simp)]; simp
  · rw [if_neg h, List.filter_cons_of_pos (by simpa using h)]; rfl
end Go.Proofs.YtpaojgfmffkodaaGreat
/- Layer 54: a variable of three slices. -/
namespace Go.Proofs.YtpaojgfmffkodaaGreat
set_option linter.unusedVariables false
set_option linter.unusedSimpArgs false
open Go.RowKit Go.Sort
def ResAt (w : World) (o : Nat) (v0 v1 v2 : Value) : Prop := w.heap[o]? = some (Obj.cells #[v0, v1, v2] 61 (0, 0))
section
variable {w w' : World} {o : Nat} {v0 v1 v2 : Value}
theorem ResAt.c0 (h : ResAt w o v0 v1 v2) : w.cell? ⟨o, 0, none⟩ = some v0 := by unfold World.cell?; rw [show w.heap[(⟨o, 0, none⟩ : Addr).block]? = _ from h]; rfl
theorem ResAt.c1 (h : ResAt w o v0 v1 v2) : w.cell? ⟨o, 1, none⟩ = some v1 := by unfold World.cell?; rw [show w.heap[(⟨o, 1, none⟩ : Addr).block]? = _ from h]; rfl
theorem ResAt.c2 (h : ResAt w o v0 v1 v2) : w.cell? ⟨o, 2, none⟩ = some v2 := by unfold World.cell?; rw [show w.heap[(⟨o, 2, none⟩ : Addr).block]? = _ from h]; rfl
theorem ResAt.free (h : ResAt w o v0 v1 v2) (i : Nat) : w.frozen? ⟨o, i, none⟩ = false := by unfold World.frozen?; rw [show w.heap[(⟨o, i, none⟩ : Addr).block]? = _ from h]; simp
theorem ResAt.lt (h : ResAt w o v0 v1 v2) : o < w.heap.size := heap_lt h
theorem ResAt.old (h : ResAt w o v0 v1 v2) : Nonempty (Old w o) := ⟨⟨h.lt⟩⟩
theorem ResAt.sameBut {es : List TypeId} (h : ResAt w o v0 v1 v2) (hs : SameBut es w w') (he : 61 ∉ es) : ResAt w' o v0 v1 v2 := hs _ _ _ _ he h
theorem ResAt.of (h : ResAt w o v0 v1 v2) (hs : SinceOf w w') : ResAt w' o v0 v1 v2 := h.sameBut (es := []) (SameBut.since hs) (by simp)
theorem ResAt.set0 (h : ResAt w o v0 v1 v2) (u : Value) : ResAt (w.setCell ⟨o, 0, none⟩ u) o u v1 v2 := by
  unfold ResAt at *
  show (w.heap.modify o _)[o]? = _
  rw [Array.getElem?_modify, if_pos rfl, h]
  rfl
theorem ResAt.set1 (h : ResAt w o v0 v1 v2) (u : Value) : ResAt (w.setCell ⟨o, 1, none⟩ u) o v0 u v2 := by
  unfold ResAt at *
  show (w.heap.modify o _)[o]? = _
  rw [Array.getElem?_modify, if_pos rfl, h]
  rfl
theorem ResAt.set2 (h : ResAt w o v0 v1 v2) (u : Value) : ResAt (w.setCell ⟨o, 2, none⟩ u) o v0 v1 u := by
  unfold ResAt at *
  show (w.heap.modify o _)[o]? = _
  rw [Array.getElem?_modify, if_pos rfl, h]
  rfl
theorem ResAt.made (w : World) : ResAt (w.alloc (.cells #[v0, v1, v2] 61)) w.heap.size v0 v1 v2 := by
  unfold ResAt
  show (w.heap.push _)[w.heap.size]? = _
  simp
theorem Owns.setOther {α : Type} {enc : α → List Value} {k base : Nat} {e : TypeId} {A : Option Addr} {c : Nat} {l : List α} (h : Owns enc k base e w A c l) {g i : Nat} {u : Value} (hg : g < base) : Owns enc k base e (w.setCell ⟨g, i, none⟩ u) A c l := by
  obtain ⟨h1, h2⟩ := h
  refine ⟨h1, ?_⟩
  rcases h2 with h2 | ⟨g', cap, cur, hv, hb, hgc, r⟩
  · exact .inl h2
  · refine .inr ⟨g', cap, cur, hv, hb, ?_, r⟩
    show (w.heap.modify _ _)[g']? = _
    rw [Array.getElem?_modify, if_neg (show g ≠ g' by omega)]
    exact hgc
theorem SameBut.setRes {es : List TypeId} (h : ResAt w o v0 v1 v2) (he : 61 ∈ es) (i : Nat) (u : Value) : SameBut es w (w.setCell ⟨o, i, none⟩ u) := SameBut.set ⟨_, _, _, he, h⟩
theorem ResAt.ne {α : Type} {enc : α → List Value} {k base : Nat} {e : TypeId} {A : Option Addr} {c : Nat} {l : List α} (h : ResAt w o v0 v1 v2) (hr : Owns enc k base e w A c l) (he : e ≠ 61) : ∀ b, blockOf A = some b → b ≠ o := by
  rintro b hb rfl
  obtain ⟨cur, hc⟩ := hr.typed b hb
  unfold ResAt at h
  rw [h] at hc
  injection hc with hc
  injection hc with _ hc _
  exact he hc.symm
theorem IsRow.grownN {α : Type} {enc : α → List Value} {k : Nat} {A : Option Addr} {c : Nat} {l : List α} {row : Option Nat} (h : IsRow enc k w A c l) (hg : w.grownBy w' row) (hne : ∀ b, blockOf A = some b → row ≠ some b) : IsRow enc k w' A c l := by
  refine ⟨h.1, ?_⟩
  rcases h.2 with h3 | ⟨g, o, rfl, hr⟩
  · exact .inl h3
  · exact .inr ⟨g, o, rfl, RowAt.grown hr hg (fun e => hne g rfl e.symm)⟩
theorem askedE_ok {L : List JobR} {l : List SlotR} {j : Int} (h0 : 0 ≤ j) (h1 : j < L.length) (hn : ∀ y ∈ l, y.job ≠ j) : askedE L l j = 0 := by
  unfold askedE jobIn
  have h2 : l.any (fun y => y.job == j) = false := by
    rw [List.any_eq_false]
    intro y hy
    simpa using hn y hy
  rw [if_neg (by simp; omega), if_neg (by rw [h2]; simp)]
end
theorem dispAll_some {s : ShopR} {L : List JobR} {l : List SlotR} {left : List Int} {j : Int} {r : List Int} {y : SlotR} (h : dispatchV s L l j = some y) : dispAll s L l left (j :: r) = dispAll s L (l ++ [y]) left r := by
  show (match dispatchV s L l j with | some y => dispAll s L (l ++ [y]) left r | none => dispAll s L l (left ++ [j]) r) = _
  rw [h]
theorem dispAll_none {s : ShopR} {L : List JobR} {l : List SlotR} {left : List Int} {j : Int} {r : List Int} (h : dispatchV s L l j = none) : dispAll s L l left (j :: r) = dispAll s L l (left ++ [j]) r := by
  show (match dispatchV s L l j with | some y => dispAll s L (l ++ [y]) left r | none => dispAll s L l (left ++ [j]) r) = _
  rw [h]
end Go.Proofs.YtpaojgfmffkodaaGreat
