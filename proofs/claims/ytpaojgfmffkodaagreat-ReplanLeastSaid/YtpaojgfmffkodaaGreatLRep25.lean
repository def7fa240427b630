/- Layer 54: the reference's Keep. -/
import Derived.Test.YtpaojgfmffkodaaGreatLRep21
import Derived.Test.YtpaojgfmffkodaaGreatLRep6b
import Derived.Test.YtpaojgfmffkodaaGreatLSl
namespace Go.Proofs.YtpaojgfmffkodaaGreat
set_option linter.unusedVariables false
set_option linter.unusedSimpArgs false
open Go.RowKit Go.Sort
attribute [local go_sem ↓] Go.wp_at_zero Go.wp_at_succ
def ResRAt (w : World) (o : Nat) (v0 v1 v2 : Value) : Prop := w.heap[o]? = some (Obj.cells #[v0, v1, v2] 65 (0, 0))
section
variable {w w' : World} {o : Nat} {v0 v1 v2 : Value}
theorem ResRAt.c0 (h : ResRAt w o v0 v1 v2) : w.cell? ⟨o, 0, none⟩ = some v0 := by unfold World.cell?; rw [show w.heap[(⟨o, 0, none⟩ : Addr).block]? = _ from h]; rfl
theorem ResRAt.c1 (h : ResRAt w o v0 v1 v2) : w.cell? ⟨o, 1, none⟩ = some v1 := by unfold World.cell?; rw [show w.heap[(⟨o, 1, none⟩ : Addr).block]? = _ from h]; rfl
theorem ResRAt.c2 (h : ResRAt w o v0 v1 v2) : w.cell? ⟨o, 2, none⟩ = some v2 := by unfold World.cell?; rw [show w.heap[(⟨o, 2, none⟩ : Addr).block]? = _ from h]; rfl
theorem ResRAt.free (h : ResRAt w o v0 v1 v2) (i : Nat) : w.frozen? ⟨o, i, none⟩ = false := by unfold World.frozen?; rw [show w.heap[(⟨o, i, none⟩ : Addr).block]? = _ from h]; simp
theorem ResRAt.lt (h : ResRAt w o v0 v1 v2) : o < w.heap.size := heap_lt h
theorem ResRAt.old (h : ResRAt w o v0 v1 v2) : Nonempty (Old w o) := ⟨⟨h.lt⟩⟩
theorem ResRAt.sameBut {es : List TypeId} (h : ResRAt w o v0 v1 v2) (hs : SameBut es w w') (he : 65 ∉ es) : ResRAt w' o v0 v1 v2 := hs _ _ _ _ he h
theorem ResRAt.of (h : ResRAt w o v0 v1 v2) (hs : SinceOf w w') : ResRAt w' o v0 v1 v2 := h.sameBut (es := []) (SameBut.since hs) (by simp)
theorem ResRAt.set0 (h : ResRAt w o v0 v1 v2) (u : Value) : ResRAt (w.setCell ⟨o, 0, none⟩ u) o u v1 v2 := by
  unfold ResRAt at *
  show (w.heap.modify o _)[o]? = _
  rw [Array.getElem?_modify, if_pos rfl, h]
  rfl
theorem ResRAt.set1 (h : ResRAt w o v0 v1 v2) (u : Value) : ResRAt (w.setCell ⟨o, 1, none⟩ u) o v0 u v2 := by
  unfold ResRAt at *
  show (w.heap.modify o _)[o]? = _
  rw [Array.getElem?_modify, if_pos rfl, h]
  rfl
theorem ResRAt.set2 (h : ResRAt w o v0 v1 v2) (u : Value) : ResRAt (w.setCell ⟨o, 2, none⟩ u) o v0 v1 u := by
  unfold ResRAt at *
  show (w.heap.modify o _)[o]? = _
  rw [Array.getElem?_modify, if_pos rfl, h]
  rfl
theorem ResRAt.made (w : World) : ResRAt (w.alloc (.cells #[v0, v1, v2] 65)) w.heap.size v0 v1 v2 := by
  unfold ResRAt
  show (w.heap.push _)[w.heap.size]? = _
  simp
theorem SameBut.setRRes {es : List TypeId} (h : ResRAt w o v0 v1 v2) (he : 65 ∈ es) (i : Nat) (u : Value) : SameBut es w (w.setCell ⟨o, i, none⟩ u) := SameBut.set ⟨_, _, _, he, h⟩
end
theorem has_kept {x : StP} (hnd : ((x.bg ++ x.pd).map (·.job)).Nodup) {kept : List Int} (hk : keptB x.pd.length (-1) kept = true) {i : Nat} (hi : i < x.pd.length) : (x.bg ++ keptL x kept).any (fun y => y.job == (x.pd.getD i noSlot).job) = kept.contains (i : Int) := by
  rw [List.map_append, List.nodup_append] at hnd
  obtain ⟨-, h2, h3⟩ := hnd
  rw [getS_at hi]
  rw [Bool.eq_iff_iff, List.any_eq_true]
  constructor
  · rintro ⟨y, hy, e⟩
    have e2 : y.job = x.pd[i].job := by simpa using e
    rcases List.mem_append.1 hy with hy | hy
    · exact absurd e2 (h3 _ (List.mem_map.2 ⟨y, hy, rfl⟩) _ (List.mem_map.2 ⟨_, List.getElem_mem hi, rfl⟩))
    · unfold keptL at hy
      obtain ⟨k, hk2, rfl⟩ := List.mem_map.1 hy
      have hm := keptB_mem (by omega) hk k hk2
      have hkl : k.toNat < x.pd.length := by omega
      rw [getS_at hkl] at e2
      have : k.toNat = i := by
        have hpw := List.pairwise_iff_getElem.1 h2
        rcases Nat.lt_trichotomy k.toNat i with h | h | h
        · exact absurd (by rw [List.getElem_map, List.getElem_map]; exact e2) (hpw k.toNat i (by simpa using hkl) (by simpa using hi) h)
        · exact h
        · exact absurd (by rw [List.getElem_map, List.getElem_map]; exact e2.symm) (hpw i k.toNat (by simpa using hi) (by simpa using hkl) h)
      rw [List.contains_iff_mem]
      have e3 : (i : Int) = k := by omega
      rw [e3]
      exact hk2
  · intro h
    rw [List.contains_iff_mem] at h
    refine ⟨x.pd[i], List.mem_append.2 (.inr ?_), by simp⟩
    unfold keptL
    exact List.mem_map.2 ⟨(i : Int), h, by rw [Int.toNat_natCast, getS_at hi]⟩
theorem upAll_snoc (l : List Int) (n : Int) : upAll [] (l ++ [n]) = upI n (upAll [] l) := by unfold upAll; rw [List.foldl_append]; rfl
theorem upAll_len (l : List Int) : (upAll [] l).length = l.length := by have := (upAll_ok l [] (by simp)).1.length_eq; simpa using this
theorem upAll_up (l : List Int) : (upAll [] l).Pairwise (· ≤ ·) := (upAll_ok l [] (by simp)).2
theorem ownsRS_empty (W : World) (b : Nat) (hb : b ≤ W.heap.size) : Owns encS 4 b 77 (W.alloc (.cells #[] 77)) (some ⟨W.heap.size, 0, none⟩) 0 [] :=
  World.ownsRow_lit (base := b) (e := 77) (size := 4) W #[] 0 hb (Nat.zero_le _) rfl
theorem infoRSlot : (Tryz.prog.info? 77).map (fun i => (i.zero, i.size, i.bytes)) = some (some (.agg #[.int .i64 0, .int .i64 0, .int .i64 0, .int .i64 0]), 4, 32) := by kernel_rfl
set_option maxRecDepth 100000 in
set_option maxHeartbeats 16000000 in
theorem refKeep54_any (x : StR) (B : Option Addr) (d : Nat) (kept : List Int) (w : World) (hx : IsState w x) (hk : IsInts w B d kept) (hkl : kept.length < 1000000) (hdr : x.dr.length = x.L.length) (hL : x.L.length < 1000) (hbl : x.bg.length < 1000000) (hpl : x.pd.length < 1000000) (hnd : ((x.bg ++ x.pd).map (·.job)).Nodup) :
    Calls Tryz.prog 21 #[stateV x, .slice B kept.length d] w fun e w' => ∃ y : ResM, e = .returned (.tuple #[resV y, .int .i64 (keepV (erSt x) kept).1]) ∧ y.r = (keepV (erSt x) kept).2 ∧ IsRes w' y ∧ FreshR w.heap.size y ∧ SinceOf w w' := by
  obtain ⟨res, hres⟩ : ∃ v, v = keepV (erSt x) kept := ⟨_, rfl⟩
  rw [← hres]
  rw [keepV_er] at hres
  have hhk : keptB x.pd.length (-1) kept = true → ∀ i, i < x.pd.length → (x.bg ++ keptL (erSt x) kept).any (fun y => y.job == (x.pd.getD i noSlot).job) = kept.contains (i : Int) := fun h i hi => has_kept (x := erSt x) hnd h hi
  obtain ⟨sx, A, c, L, gA, gc, bg, pA, pc, pd, dA, dc, dr⟩ := x
  simp only at hdr hL hbl hpl hres hhk
  have hrest := fun (B' : Option Addr) (d' : Nat) (l : List SlotR) W (hW : SinceOf w W) (h1 : IsSlots W B' d' l) (h2 : l.length < 1073741824) => refRest54_any ⟨sx, A, c, L, gA, gc, bg, pA, pc, pd, dA, dc, dr⟩ B' d' l W (hx.of hW) h1 h2 hdr hL
  have hVA := fun (B' : Option Addr) (d' : Nat) (l : List SlotR) W (hW : SinceOf w W) (h1 : IsSlots W B' d' l) (h2 : l.length < 1073741824) (h3 : l.length ≤ d') => refValid52_any sx A c L B' d' l W (hx.shop.of hW) (hx.jobs.of hW) h1 (by omega) h3
  have hDI := fun (B' : Option Addr) (d' : Nat) (l : List SlotR) (j : Int) W (hW : SinceOf w W) (h1 : IsSlots W B' d' l) (h2 : l.length < 1073741824) (h3 : l.length ≤ d') => refDispatch52_any sx A c L B' d' l j W (hx.shop.of hW) (hx.jobs.of hW) h1 h2 h3
  have hfm := fun (l : List SlotR) (j : Int) (hj : j ∈ restV (erSt ⟨sx, A, c, L, gA, gc, bg, pA, pc, pd, dA, dc, dr⟩) l) => freeL_mem.1 ((sortD_perm _ _).mem_iff.1 hj)
  have hnd2 := fun (l : List SlotR) => (sortD_perm (dueOf (erSt ⟨sx, A, c, L, gA, gc, bg, pA, pc, pd, dA, dc, dr⟩).L) (freeL (erSt ⟨sx, A, c, L, gA, gc, bg, pA, pc, pd, dA, dc, dr⟩) l (erSt ⟨sx, A, c, L, gA, gc, bg, pA, pc, pd, dA, dc, dr⟩).L.length)).nodup_iff.2 (freeL_nodup _ _ _)
  have hkt := fun (k : Nat) (h : k < kept.length) => keptL_take (erSt ⟨sx, A, c, L, gA, gc, bg, pA, pc, pd, dA, dc, dr⟩) h
  have hms := movedL_succ (erSt ⟨sx, A, c, L, gA, gc, bg, pA, pc, pd, dA, dc, dr⟩) kept
  have hmd : movedL (erSt ⟨sx, A, c, L, gA, gc, bg, pA, pc, pd, dA, dc, dr⟩) kept = (((List.range pd.length).filter fun (i : Nat) => !kept.contains (i : Int)).map fun i => ((erSt ⟨sx, A, c, L, gA, gc, bg, pA, pc, pd, dA, dc, dr⟩).pd.getD i noSlot).job) := rfl
  have hpdE : (erSt ⟨sx, A, c, L, gA, gc, bg, pA, pc, pd, dA, dc, dr⟩).pd = pd := rfl
  have hLE : (erSt ⟨sx, A, c, L, gA, gc, bg, pA, pc, pd, dA, dc, dr⟩).L.length = L.length := erL_length L
  simp only [hpdE] at hkt hms hmd
  rw [hmd] at hres
  have hk0 : keptL (erSt ⟨sx, A, c, L, gA, gc, bg, pA, pc, pd, dA, dc, dr⟩) kept = keptL (erSt ⟨sx, A, c, L, gA, gc, bg, pA, pc, pd, dA, dc, dr⟩) (kept.take kept.length) := by rw [List.take_length]
  have hkn : ∀ k, (keptL (erSt ⟨sx, A, c, L, gA, gc, bg, pA, pc, pd, dA, dc, dr⟩) (kept.take k)).length ≤ kept.length := fun k => by unfold keptL; rw [List.length_map, List.length_take]; omega
  have hkz : keptL (erSt ⟨sx, A, c, L, gA, gc, bg, pA, pc, pd, dA, dc, dr⟩) (kept.take 0) = [] := rfl
  rw [hk0] at hres hhk
  generalize hPd : erSt ⟨sx, A, c, L, gA, gc, bg, pA, pc, pd, dA, dc, dr⟩ = P at *
  have hrest2 : ∀ (B' : Option Addr) (d' : Nat) (l : List SlotR) W, SinceOf w W → IsSlots W B' d' l → l.length < 1073741824 → Calls Tryz.prog 58 #[.agg #[.slice sx.A sx.cals.length sx.c, .slice sx.B sx.rows.length sx.d, .int .i64 sx.most, .slice A L.length c, .slice gA bg.length gc, .slice pA pd.length pc, .slice dA L.length dc], .slice B' l.length d'] W fun e w' => ∃ (C : Option Addr) (c' : Nat), e = .returned (.slice C (restV P l).length c') ∧ Owns encN 1 W.heap.size 3 w' C c' (restV P l) ∧ SinceOf W w' := fun B' d' l W hW h1 h2 => by
    have h := hrest B' d' l W hW h1 h2
    simp only [stateV, hdr] at h
    exact h
  obtain ⟨i0, hi, hz0, hz1, hz2⟩ := info_parts infoRSlot
  have HI := Lib.hid (And.intro hi (And.intro hz0 (And.intro hz1 hz2)))
  obtain ⟨sA, sc, cals, sB, sd, R, most⟩ := sx
  have HRES := Lib.hid hres
  have H := Lib.hid (And.intro hx (And.intro hk (And.intro hkt (And.intro hms (And.intro hkn (And.intro hfm hnd2))))))
  have G := Lib.hid (And.intro hrest2 (And.intro hVA (And.intro hDI hhk)))
  have hll := hx.jobs.len
  clear hrest2 hres hx hk hkt hms hmd hkn hfm hnd2 hrest hVA hDI hhk hi hz0 hz1 hz2 hk0 hpdE hPd hnd
  have HDR := Lib.hid hdr
  show Calls Tryz.prog _ #[.agg #[.slice sA cals.length sc, .slice sB R.length sd, .int .i64 most, .slice A L.length c, .slice gA bg.length gc, .slice pA pd.length pc, .slice dA dr.length dc], .slice B kept.length d] w _
  rw [hdr]
  clear hdr
  go_enter Tryz.func21, Tryz.ntmps21
  go_wp2_with (at_builtin; refine wpList_append_row rfl (.tmp 17) (.tmp 19) 29 rfl encS_len (by omega) encS_one i0 _ 32 Tryz.underlying29 HI.out.1 HI.out.2.1 HI.out.2.2.1 HI.out.2.2.2 rfl (l := []) (A := some ⟨w.heap.size + 1 + 1, 0, none⟩) (c := 0) (base := w.heap.size + 1 + 1) rfl (by have q := ownsRS_empty ((w.alloc (.cells #[.slice sA cals.length sc, .slice sB R.length sd, .int .i64 most, .slice A L.length c, .slice gA bg.length gc, .slice pA pd.length pc, .slice dA L.length dc] 52)).alloc (.cells #[.slice none 0 0, .slice none 0 0, .slice none 0 0] 65)) (w.heap.size + 1 + 1) (by simp); rw [show ((w.alloc (.cells #[.slice sA cals.length sc, .slice sB R.length sd, .int .i64 most, .slice A L.length c, .slice gA bg.length gc, .slice pA pd.length pc, .slice dA L.length dc] 52)).alloc (.cells #[.slice none 0 0, .slice none 0 0, .slice none 0 0] 65)).heap.size = w.heap.size + 1 + 1 from by simp] at q; exact q) (m := bg) (B := gA) (d := gc) rfl (H.out.1.bg.of Sx) (by unfold maxLen; simp; omega) (by simp; omega) (by simp) ?_; intro A0 c0 wz hA0 hgr0 hbl0)
  have hs0 : SinceOf ((w.alloc (.cells #[.slice sA cals.length sc, .slice sB R.length sd, .int .i64 most, .slice A L.length c, .slice gA bg.length gc, .slice pA pd.length pc, .slice dA L.length dc] 52)).alloc (.cells #[.slice none 0 0, .slice none 0 0, .slice none 0 0] 65)) wz := SinceOf.grown Sx hgr0 (by intro q hq; simp [blockOf] at hq; simp; omega)
  obtain ⟨z0, rfl⟩ := hs0
  have e0 := z0.size
  simp at e0
  rw [List.nil_append] at hA0
  have H0 := Lib.hid hA0
  clear hA0 hgr0 hbl0
  go_wp2_with fail
  go_loopg [6, 7] kept.length (fun gas s6 s7 wr => ∃ (k : Nat) (C : Option Addr) (c1 : Nat), k ≤ kept.length ∧ kept.length - k ≤ gas ∧ s6 = .slice C (bg ++ keptL P (kept.take k)).length c1 ∧ s7 = .int .i64 k ∧ Owns encS 4 (w.heap.size + 1 + 1) 77 wr C c1 (bg ++ keptL P (kept.take k)) ∧ keptB pd.length (-1) kept = keptB pd.length (lastK kept k) (kept.drop k) ∧ (k ≠ 0 → 0 ≤ lastK kept k) ∧ SinceOf ((w.alloc (.cells #[.slice sA cals.length sc, .slice sB R.length sd, .int .i64 most, .slice A L.length c, .slice gA bg.length gc, .slice pA pd.length pc, .slice dA L.length dc] 52)).alloc (.cells #[.slice none 0 0, .slice none 0 0, .slice none 0 0] 65)) wr)
  case atStart => exact ⟨0, A0, c0, by omega, by omega, by rw [hkz, List.append_nil], rfl, by rw [hkz, List.append_nil]; exact H0.out, rfl, by omega, Sx⟩
  case round =>
    obtain ⟨k, C, c1, hkk, hgas, rfl, rfl, hown, hkb, hlk, ⟨z, rfl⟩⟩ := hrel
    obtain ⟨m, hm⟩ : ∃ m, m = bg ++ keptL P (kept.take k) := ⟨_, rfl⟩
    rw [← hm] at hown ⊢
    have hml : m.length ≤ bg.length + kept.length := by rw [hm, List.length_append]; have := H.out.2.2.2.2.1 k; omega
    have HM := Lib.hid hm
    clear hm
    by_cases hlt : k < kept.length
    · obtain ⟨g, off, rfl, hr⟩ := (H.out.2.1.of (show SinceOf w z.wd from Sx)).at_ (by omega)
      have hO := hr.there
      have v0 := hr.n0 k hlt
      rcases kept_cases (n := pd.length) hlt hlk with ⟨hf, hbad⟩ | ⟨a, b, hkn, hprev⟩
      · have hr2 : res = (2, noRes) := by rw [HRES.out, if_neg (by rw [hkb, hf]; simp)]
        subst hr2
        clear hkb hf hown hlk H0
        rcases hbad with a | ⟨a, b⟩ | ⟨a, b, q, rfl, cc⟩
        · clear hr
          generalize kept[k] = v at *
          have d1 : decide (v < 0) = true := decide_eq_true a
          go_wp2_with fail
          refine region_later (by kernel_rfl) (by kernel_rfl) ?_
          repeat (go_big_quiet_step (fail))
          refine wpQuiet_nil ?_
          rintro _ ⟨zq, rfl⟩
          go_wp2_with fail
          go_returns
          exact ⟨zeroM, rfl, rfl, zeroM_is _, zeroM_fresh _, Sx⟩
        · clear hr
          generalize kept[k] = v at *
          have d1 : decide (v < 0) = false := decide_eq_false a
          have d2 : decide ((pd.length : Int) ≤ v) = true := decide_eq_true b
          go_wp2_with fail
          refine region_later (by kernel_rfl) (by kernel_rfl) ?_
          repeat (go_big_quiet_step (fail))
          refine wpQuiet_nil ?_
          rintro _ ⟨zq, rfl⟩
          go_wp2_with fail
          go_returns
          exact ⟨zeroM, rfl, rfl, zeroM_is _, zeroM_fresh _, Sx⟩
        · have p0 := hr.n0 q (by omega)
          rw [← getD_at (show q < kept.length by omega)] at p0
          have hq1 : ((q + 1 : Nat) : Int) - 1 = q := by omega
          clear hr
          generalize kept[q + 1] = v at *
          generalize kept.getD q 0 = pv at *
          have d1 : decide (v < 0) = false := decide_eq_false a
          have d2 : decide ((pd.length : Int) ≤ v) = false := decide_eq_false b
          go_wp2_with fail
          refine region_later (by kernel_rfl) (by kernel_rfl) ?_
          repeat (go_big_quiet_step (fail))
          refine wpQuiet_nil ?_
          rintro _ ⟨zq, rfl⟩
          go_wp2_with fail
          go_returns
          exact ⟨zeroM, rfl, rfl, zeroM_is _, zeroM_fresh _, Sx⟩
      · have hkt := H.out.2.2.1 k hlt
        have hkn2 := H.out.2.2.2.2.1 k
        rw [← lastK_succ hlt] at a
        have hnx : 0 ≤ lastK kept (k + 1) := by omega
        rw [lastK_succ hlt] at a
        obtain ⟨v, hv⟩ : ∃ v : Nat, kept[k] = v := ⟨kept[k].toNat, by omega⟩
        rw [hv] at v0 a b hkt
        rw [Int.toNat_natCast] at hkt
        have hvn : v < pd.length := by omega
        rw [getS_at hvn] at hkt
        obtain ⟨gp, op, rfl, hrp⟩ := (H.out.1.pd.of (show SinceOf w z.wd from Sx)).at_ (by show 0 < pd.length; omega)
        have hOp := hrp.there
        have s0 := hrp.s0 v hvn
        have s1 := hrp.s1 v hvn
        have s2 := hrp.s2 v hvn
        have s3 := hrp.s3 v hvn
        have hsz := z.size
        simp at hsz
        have HK := Lib.hid (And.intro hown (And.intro hkt (And.intro (hkb.trans hkn) (And.intro hnx hsz))))
        have hp : k = 0 ∨ ∃ q, k = q + 1 ∧ ¬ (v : Int) ≤ kept.getD q 0 := by rw [hv] at hprev; exact hprev
        generalize pd[v] = y at *
        obtain ⟨y0, y1, y2, y3⟩ := y
        simp only at s0 s1 s2 s3
        rcases hp with rfl | ⟨q, hkq, cc⟩
        · simp only [Nat.add_zero] at v0
          clear hkb hkn hown hlk hkt hr hrp hv hprev hsz
          have d1 : decide ((v : Int) < 0) = false := decide_eq_false (by omega)
          have d2 : decide (pd.length ≤ v) = false := decide_eq_false (by omega)
          go_wp2_with fail
          refine region_later (by kernel_rfl) (by kernel_rfl) ?_
          repeat (go_big_quiet_step (fail))
          refine wpQuiet_nil ?_
          rintro _ ⟨zq, rfl⟩
          go_wp2_with fail
          refine regionL [10, 11] (S := (fun w' => w'.cell? ⟨w.heap.size, 5, none⟩ = some (.slice (some ⟨gp, op, none⟩) pd.length pc) ∧ w'.cell? ⟨g, off, none⟩ = some (.int .i64 v) ∧ w'.cell? ⟨gp, op + v * 4, none⟩ = some (.int .i64 y0) ∧ w'.cell? ⟨gp, op + v * 4 + 1, none⟩ = some (.int .i64 y1) ∧ w'.cell? ⟨gp, op + v * 4 + 2, none⟩ = some (.int .i64 y2) ∧ w'.cell? ⟨gp, op + v * 4 + 3, none⟩ = some (.int .i64 y3))) (by kernel_rfl) ?_ (fun hHeld0 => ?_)
          · simp [go_sem, *]
          refine tK (i := 0) (d := some 59) (v := ?_) rfl rfl (fun _ _ _ h => h) (Or.inl ⟨by rfl, ?_⟩) (by assumption) ?_
          rotate_left 1
          · (intro w hSw; (try dsimp only at hSw); go_simp) <;> (with_reducible rfl)
          (try simp only [Act.put, List.setIfInBounds_toArray, List.set_cons_zero, List.set_cons_succ])
          refine tK (i := 1) (d := some 60) (v := ?_) rfl rfl (fun _ _ _ h => h) (Or.inl ⟨by rfl, ?_⟩) (by assumption) ?_
          rotate_left 1
          · (intro w hSw; (try dsimp only at hSw); go_simp) <;> (with_reducible rfl)
          (try simp only [Act.put, List.setIfInBounds_toArray, List.set_cons_zero, List.set_cons_succ])
          refine tK (i := 2) (d := some 61) (v := ?_) rfl rfl (fun _ _ _ h => h) (Or.inl ⟨by rfl, ?_⟩) (by assumption) ?_
          rotate_left 1
          · (intro w hSw; (try dsimp only at hSw); go_simp) <;> (with_reducible rfl)
          (try simp only [Act.put, List.setIfInBounds_toArray, List.set_cons_zero, List.set_cons_succ])
          refine tK (i := 3) (d := some 62) (v := ?_) rfl rfl (fun _ _ _ h => h) (Or.inl ⟨by rfl, ?_⟩) (by assumption) ?_
          rotate_left 1
          · (intro w hSw; (try dsimp only at hSw); go_simp) <;> (with_reducible rfl)
          (try simp only [Act.put, List.setIfInBounds_toArray, List.set_cons_zero, List.set_cons_succ])
          refine tK (i := 4) (d := some 63) (v := ?_) rfl rfl (fun _ _ _ h => h) (Or.inl ⟨by rfl, ?_⟩) (by assumption) ?_
          rotate_left 1
          · (intro w hSw; (try dsimp only at hSw); go_simp) <;> (with_reducible rfl)
          (try simp only [Act.put, List.setIfInBounds_toArray, List.set_cons_zero, List.set_cons_succ])
          refine tK (i := 5) (d := some 64) (v := ?_) rfl rfl (fun _ _ _ h => h) (Or.inl ⟨by rfl, ?_⟩) (by assumption) ?_
          rotate_left 1
          · (intro w hSw; (try dsimp only at hSw); go_simp) <;> (with_reducible rfl)
          (try simp only [Act.put, List.setIfInBounds_toArray, List.set_cons_zero, List.set_cons_succ])
          refine tK (i := 6) (d := some 65) (v := ?_) rfl rfl (fun _ _ _ h => h) (Or.inl ⟨by rfl, ?_⟩) (by assumption) ?_
          rotate_left 1
          · (intro w hSw; (try dsimp only at hSw); go_simp) <;> (with_reducible rfl)
          (try simp only [Act.put, List.setIfInBounds_toArray, List.set_cons_zero, List.set_cons_succ])
          refine tK (i := 7) (d := some 66) (v := ?_) rfl rfl (fun _ _ _ h => h) (Or.inl ⟨by rfl, ?_⟩) (by assumption) ?_
          rotate_left 1
          · (intro w hSw; (try dsimp only at hSw); go_simp) <;> (with_reducible rfl)
          (try simp only [Act.put, List.setIfInBounds_toArray, List.set_cons_zero, List.set_cons_succ])
          refine tK (i := 8) (d := some 67) (v := ?_) rfl rfl (fun _ _ _ h => h) (Or.inl ⟨by rfl, ?_⟩) (by assumption) ?_
          rotate_left 1
          · (intro w hSw; (try dsimp only at hSw); go_simp) <;> (with_reducible rfl)
          (try simp only [Act.put, List.setIfInBounds_toArray, List.set_cons_zero, List.set_cons_succ])
          refine stepL (i := 9) (by kernel_rfl) rfl (fun K' hK => ?_)
          go_simp
          refine hK.out _ _ ?_ (fun hHeld1 => ?_)
          · simp [go_sem, *]
          clear hK K' hHeld0
          refine lastL (i := 10) (by kernel_rfl) (by rfl) rfl (fun K' hK => ?_)
          refine step_append_row rfl (.tmp 59) (.tmp 68) 29 rfl encS_len (by omega) encS_one i0 _ 32 Tryz.underlying29 HI.out.1 HI.out.2.1 HI.out.2.2.1 HI.out.2.2.2 rfl (l := m) (A := C) (c := c1) (base := w.heap.size + 1 + 1) ?hs ?own (m := [⟨y0, y1, y2, y3⟩]) rfl ?hm ?h63 ?hby ?hbase ?_
          case hs => rfl
          case own => exact HK.out.1.of Sx
          case hm => exact (rowS_at zq.wd _ ⟨y0, y1, y2, y3⟩ 77 rfl).of Sx
          case h63 => unfold maxLen; simp; omega
          case hby => simp; omega
          case hbase => have h9 := HK.out.2.2.2.2; have h8 := zq.size; (try simp at h8); simp; omega
          intro E3 f3 w3 hown3 hgr3 hbl3
          have hs3 : SinceOf ((w.alloc (.cells #[.slice sA cals.length sc, .slice sB R.length sd, .int .i64 most, .slice A L.length c, .slice gA bg.length gc, .slice (some ⟨gp, op, none⟩) pd.length pc, .slice dA L.length dc] 52)).alloc (.cells #[.slice none 0 0, .slice none 0 0, .slice none 0 0] 65)) w3 := SinceOf.grown Sx hgr3 (fun q2 hq2 => by have := (HK.out.1.below q2 hq2).1; simp; omega)
          refine hK.out _ _ ?_
          clear hK K'
          refine lastL (i := 11) (by kernel_rfl) (by rfl) rfl (fun K' hK => ?_)
          go_simp
          refine hK.out _ _ ?_
          refine doneL (by kernel_rfl) ?_ _
          go_wp2_with fail
          go_roundg (kept.length - (0 + 1))
          case measure => omega
          case rel =>
            refine ⟨0 + 1, E3, f3, hlt, Nat.le_refl _, ?_, by go_num, ?_, HK.out.2.2.1, fun _ => HK.out.2.2.2.1, hs3⟩
            · rw [HK.out.2.1, ← List.append_assoc, ← HM.out, List.length_append]; rfl
            · rw [HK.out.2.1, ← List.append_assoc, ← HM.out]; exact hown3
        · have p0 := hr.n0 q (by omega)
          rw [← getD_at (show q < kept.length by omega)] at p0
          have hq1 : (k : Int) - 1 = q := by omega
          have d3 : decide (0 < k) = true := decide_eq_true (by omega)
          clear hkq
          clear hkb hkn hown hlk hkt hr hrp hv hprev hsz
          generalize kept.getD q 0 = pv at *
          have d1 : decide ((v : Int) < 0) = false := decide_eq_false (by omega)
          have d2 : decide (pd.length ≤ v) = false := decide_eq_false (by omega)
          go_wp2_with fail
          refine region_later (by kernel_rfl) (by kernel_rfl) ?_
          repeat (go_big_quiet_step (fail))
          refine wpQuiet_nil ?_
          rintro _ ⟨zq, rfl⟩
          go_wp2_with fail
          refine regionL [10, 11] (S := (fun w' => w'.cell? ⟨w.heap.size, 5, none⟩ = some (.slice (some ⟨gp, op, none⟩) pd.length pc) ∧ w'.cell? ⟨g, off + k, none⟩ = some (.int .i64 v) ∧ w'.cell? ⟨gp, op + v * 4, none⟩ = some (.int .i64 y0) ∧ w'.cell? ⟨gp, op + v * 4 + 1, none⟩ = some (.int .i64 y1) ∧ w'.cell? ⟨gp, op + v * 4 + 2, none⟩ = some (.int .i64 y2) ∧ w'.cell? ⟨gp, op + v * 4 + 3, none⟩ = some (.int .i64 y3))) (by kernel_rfl) ?_ (fun hHeld0 => ?_)
          · simp [go_sem, *]
          refine tK (i := 0) (d := some 59) (v := ?_) rfl rfl (fun _ _ _ h => h) (Or.inl ⟨by rfl, ?_⟩) (by assumption) ?_
          rotate_left 1
          · (intro w hSw; (try dsimp only at hSw); go_simp) <;> (with_reducible rfl)
          (try simp only [Act.put, List.setIfInBounds_toArray, List.set_cons_zero, List.set_cons_succ])
          refine tK (i := 1) (d := some 60) (v := ?_) rfl rfl (fun _ _ _ h => h) (Or.inl ⟨by rfl, ?_⟩) (by assumption) ?_
          rotate_left 1
          · (intro w hSw; (try dsimp only at hSw); go_simp) <;> (with_reducible rfl)
          (try simp only [Act.put, List.setIfInBounds_toArray, List.set_cons_zero, List.set_cons_succ])
          refine tK (i := 2) (d := some 61) (v := ?_) rfl rfl (fun _ _ _ h => h) (Or.inl ⟨by rfl, ?_⟩) (by assumption) ?_
          rotate_left 1
          · (intro w hSw; (try dsimp only at hSw); go_simp) <;> (with_reducible rfl)
          (try simp only [Act.put, List.setIfInBounds_toArray, List.set_cons_zero, List.set_cons_succ])
          refine tK (i := 3) (d := some 62) (v := ?_) rfl rfl (fun _ _ _ h => h) (Or.inl ⟨by rfl, ?_⟩) (by assumption) ?_
          rotate_left 1
          · (intro w hSw; (try dsimp only at hSw); go_simp) <;> (with_reducible rfl)
          (try simp only [Act.put, List.setIfInBounds_toArray, List.set_cons_zero, List.set_cons_succ])
          refine tK (i := 4) (d := some 63) (v := ?_) rfl rfl (fun _ _ _ h => h) (Or.inl ⟨by rfl, ?_⟩) (by assumption) ?_
          rotate_left 1
          · (intro w hSw; (try dsimp only at hSw); go_simp) <;> (with_reducible rfl)
          (try simp only [Act.put, List.setIfInBounds_toArray, List.set_cons_zero, List.set_cons_succ])
          refine tK (i := 5) (d := some 64) (v := ?_) rfl rfl (fun _ _ _ h => h) (Or.inl ⟨by rfl, ?_⟩) (by assumption) ?_
          rotate_left 1
          · (intro w hSw; (try dsimp only at hSw); go_simp) <;> (with_reducible rfl)
          (try simp only [Act.put, List.setIfInBounds_toArray, List.set_cons_zero, List.set_cons_succ])
          refine tK (i := 6) (d := some 65) (v := ?_) rfl rfl (fun _ _ _ h => h) (Or.inl ⟨by rfl, ?_⟩) (by assumption) ?_
          rotate_left 1
          · (intro w hSw; (try dsimp only at hSw); go_simp) <;> (with_reducible rfl)
          (try simp only [Act.put, List.setIfInBounds_toArray, List.set_cons_zero, List.set_cons_succ])
          refine tK (i := 7) (d := some 66) (v := ?_) rfl rfl (fun _ _ _ h => h) (Or.inl ⟨by rfl, ?_⟩) (by assumption) ?_
          rotate_left 1
          · (intro w hSw; (try dsimp only at hSw); go_simp) <;> (with_reducible rfl)
          (try simp only [Act.put, List.setIfInBounds_toArray, List.set_cons_zero, List.set_cons_succ])
          refine tK (i := 8) (d := some 67) (v := ?_) rfl rfl (fun _ _ _ h => h) (Or.inl ⟨by rfl, ?_⟩) (by assumption) ?_
          rotate_left 1
          · (intro w hSw; (try dsimp only at hSw); go_simp) <;> (with_reducible rfl)
          (try simp only [Act.put, List.setIfInBounds_toArray, List.set_cons_zero, List.set_cons_succ])
          refine stepL (i := 9) (by kernel_rfl) rfl (fun K' hK => ?_)
          go_simp
          refine hK.out _ _ ?_ (fun hHeld1 => ?_)
          · simp [go_sem, *]
          clear hK K' hHeld0
          refine lastL (i := 10) (by kernel_rfl) (by rfl) rfl (fun K' hK => ?_)
          refine step_append_row rfl (.tmp 59) (.tmp 68) 29 rfl encS_len (by omega) encS_one i0 _ 32 Tryz.underlying29 HI.out.1 HI.out.2.1 HI.out.2.2.1 HI.out.2.2.2 rfl (l := m) (A := C) (c := c1) (base := w.heap.size + 1 + 1) ?hs ?own (m := [⟨y0, y1, y2, y3⟩]) rfl ?hm ?h63 ?hby ?hbase ?_
          case hs => rfl
          case own => exact HK.out.1.of Sx
          case hm => exact (rowS_at zq.wd _ ⟨y0, y1, y2, y3⟩ 77 rfl).of Sx
          case h63 => unfold maxLen; simp; omega
          case hby => simp; omega
          case hbase => have h9 := HK.out.2.2.2.2; have h8 := zq.size; (try simp at h8); simp; omega
          intro E3 f3 w3 hown3 hgr3 hbl3
          have hs3 : SinceOf ((w.alloc (.cells #[.slice sA cals.length sc, .slice sB R.length sd, .int .i64 most, .slice A L.length c, .slice gA bg.length gc, .slice (some ⟨gp, op, none⟩) pd.length pc, .slice dA L.length dc] 52)).alloc (.cells #[.slice none 0 0, .slice none 0 0, .slice none 0 0] 65)) w3 := SinceOf.grown Sx hgr3 (fun q2 hq2 => by have := (HK.out.1.below q2 hq2).1; simp; omega)
          refine hK.out _ _ ?_
          clear hK K'
          refine lastL (i := 11) (by kernel_rfl) (by rfl) rfl (fun K' hK => ?_)
          go_simp
          refine hK.out _ _ ?_
          refine doneL (by kernel_rfl) ?_ _
          go_wp2_with fail
          go_roundg (kept.length - (k + 1))
          case measure => omega
          case rel =>
            refine ⟨k + 1, E3, f3, hlt, Nat.le_refl _, ?_, by go_num, ?_, HK.out.2.2.1, fun _ => HK.out.2.2.2.1, hs3⟩
            · rw [HK.out.2.1, ← List.append_assoc, ← HM.out, List.length_append]; rfl
            · rw [HK.out.2.1, ← List.append_assoc, ← HM.out]; exact hown3
    · have hkl2 : k = kept.length := by omega
      have hkT : keptB pd.length (-1) kept = true := by rw [hkb, hkl2, List.drop_length]; rfl
      have hm2 : bg ++ keptL P (kept.take kept.length) = m := by rw [HM.out, hkl2]
      have hr1 := HRES.out
      rw [if_pos hkT, hm2] at hr1
      have VA := G.out.2.1 C c1 m
      have hcap := hown.le_cap
      obtain ⟨⟨vi, ve⟩, hvt⟩ : ∃ vt, validT ⟨sA, sc, cals, sB, sd, R, most⟩ L m = vt := ⟨_, rfl⟩
      rw [hvt] at VA
      by_cases hve : ve = 0
      · subst hve
        have hgood := validT_zero.1 (show (validT ⟨sA, sc, cals, sB, sd, R, most⟩ L m).2 = 0 by rw [hvt])
        rw [if_pos (by rw [hvt])] at hr1
        have hmv := H.out.2.2.2.1
        have hmv0 : (((List.range 0).filter fun (i : Nat) => !kept.contains (i : Int)).map fun i => (pd.getD i noSlot).job) = [] := rfl
        have hmvl : ∀ n, (((List.range n).filter fun (i : Nat) => !kept.contains (i : Int)).map fun i => (pd.getD i noSlot).job).length ≤ n := fun n => by
          rw [List.length_map]
          exact Nat.le_trans (List.length_filter_le _ _) (by simp)
        obtain ⟨mv, hmvd⟩ : ∃ mv : Nat → List Int, mv = fun n => (((List.range n).filter fun (i : Nat) => !kept.contains (i : Int)).map fun i => (pd.getD i noSlot).job) := ⟨_, rfl⟩
        have hmv2 : ∀ n, mv (n + 1) = if kept.contains (n : Int) = true then mv n else mv n ++ [(pd.getD n noSlot).job] := fun n => by rw [hmvd]; exact hmv n
        have hmv3 : ∀ n, (mv n).length ≤ n := fun n => by rw [hmvd]; exact hmvl n
        have hmv4 : mv 0 = [] := by rw [hmvd]; rfl
        have hr2 : res = (0, ⟨(dispAll ⟨sA, sc, cals, sB, sd, R, most⟩ L m [] (restV P m)).1, sortI (mv pd.length), sortI (dispAll ⟨sA, sc, cals, sB, sd, R, most⟩ L m [] (restV P m)).2⟩) := by rw [hr1, hmvd]
        have hhk := G.out.2.2.2 hkT
        rw [hm2] at hhk
        have HHK := Lib.hid hhk
        have HV := Lib.hid (And.intro hgood (And.intro hmv2 (And.intro hmv3 (And.intro hmv4 hr2))))
        have HO := Lib.hid hown
        have hsz := z.size
        simp at hsz
        clear hhk hgood hmv hmv0 hmvl hmvd hmv2 hmv3 hmv4 hr1 hr2 hown hm2 hkT hkb hlk hvt HRES
        go_wp2_with fail
        (with_reducible refine (VA _ Sx ((HO.out.isRow encS_len).of Sx) (by omega) hcap).calls.mono ?_)
        rintro e _ ⟨rfl, z2, rfl⟩
        have hz2 := z2.size
        clear VA
        go_wp2_with fail
        go_loopg [11] pd.length (fun gas s11 wr => ∃ (i : Nat) (M : Option Addr) (mc : Nat), i ≤ pd.length ∧ pd.length - i ≤ gas ∧ s11 = .int .i64 i ∧ ResRAt wr z2.wd.heap.size (.slice none 0 0) (.slice M (upAll [] (mv i)).length mc) (.slice none 0 0) ∧ Owns encN 1 (z2.wd.heap.size + 1) 3 wr M mc (upAll [] (mv i)) ∧ SinceOf z2.wd wr)
        case atStart => exact ⟨0, none, 0, by omega, by omega, rfl, by rw [HV.out.2.2.2.1]; exact ResRAt.made _, by rw [HV.out.2.2.2.1]; exact Owns.nil _ _ _ _ _, Sx⟩
        case round =>
          obtain ⟨i, M, mc, hi, hgas2, rfl, hres, hM, ⟨z3, rfl⟩⟩ := hrel
          by_cases hlt2 : i < pd.length
          · obtain ⟨gp, op, rfl, hrp⟩ := (H.out.1.pd.of (show SinceOf w z3.wd from Sx)).at_ (by show 0 < pd.length; omega)
            have hOp := hrp.there
            have s0 := hrp.s0 i hlt2
            have hms := HV.out.2.1 i
            have hml3 := HV.out.2.2.1 i
            have hhi := HHK.out i hlt2
            rw [getS_at hlt2] at hms hhi
            have CI := fun W (hW : SinceOf z2.wd W) => refHas54_any C c1 m pd[i].job W ((HO.out.isRow encS_len).of (show SinceOf z.wd W from SinceOf.trans Sx hW)) (by omega)
            rw [hhi] at CI
            have hup := upAll_up (mv i)
            have hul := upAll_len (mv i)
            have hsn := upAll_snoc (mv i) pd[i].job
            obtain ⟨mvi, hmvi⟩ : ∃ q, q = mv i := ⟨_, rfl⟩
            rw [← hmvi] at hres hM hms hml3 hup hul hsn
            obtain ⟨mu, hmu⟩ : ∃ q, q = upAll [] mvi := ⟨_, rfl⟩
            rw [← hmu] at hres hM hup hul hsn
            have hOo := hres.old
            have r1 := hres.c1
            have f1 := hres.free 1
            have hz3 := z3.size
            have hcapM := hM.le_cap
            have HB := Lib.hid (And.intro hms (And.intro hM (And.intro hres (And.intro hsn hup))))
            have HMU := Lib.hid (And.intro hmu hmvi)
            have hmub : mu.length < 1000000 := by omega
            clear hms hM hrp hres hmvi hhi hup hsn hmu hul
            generalize kept.contains (i : Int) = q at *
            generalize pd[i] = y at *
            cases q
            · have hms2 : mv (i + 1) = mvi ++ [y.job] := by have := HB.out.1; simpa using this
              have HM2 := Lib.hid hms2
              have AS := fun W (hW : SinceOf z3.wd W) => refAsc54_any M mc mu y.job W ((HB.out.2.1.isRow encN_len).of hW) HB.out.2.2.2.2 (by omega) hcapM
              clear hms2
              go_wp2_with fail
              refine (CI _ Sx).calls.mono ?_
              rintro e _ ⟨rfl, z4, rfl⟩
              have hz4 := z4.size
              (try simp at hz4)
              go_wp2_with fail
              refine regionL [10] (S := (fun w' => w'.cell? ⟨z2.wd.heap.size, 1, none⟩ = some (.slice M mu.length mc) ∧ w'.cell? ⟨w.heap.size, 5, none⟩ = some (.slice (some ⟨gp, op, none⟩) pd.length pc) ∧ w'.cell? ⟨gp, op + i * 4, none⟩ = some (.int .i64 y.job))) (by kernel_rfl) ?_ (fun hHeld0 => ?_)
              · simp [go_sem, *]
              refine tK (i := 0) (d := some 98) (v := ?_) rfl rfl (fun _ _ _ h => h) (Or.inl ⟨by rfl, ?_⟩) (by assumption) ?_
              rotate_left 1
              · (intro w hSw; (try dsimp only at hSw); go_simp) <;> (with_reducible rfl)
              (try simp only [Act.put, List.setIfInBounds_toArray, List.set_cons_zero, List.set_cons_succ])
              refine tK (i := 1) (d := some 99) (v := ?_) rfl rfl (fun _ _ _ h => h) (Or.inl ⟨by rfl, ?_⟩) (by assumption) ?_
              rotate_left 1
              · (intro w hSw; (try dsimp only at hSw); go_simp) <;> (with_reducible rfl)
              (try simp only [Act.put, List.setIfInBounds_toArray, List.set_cons_zero, List.set_cons_succ])
              refine tK (i := 2) (d := some 100) (v := ?_) rfl rfl (fun _ _ _ h => h) (Or.inl ⟨by rfl, ?_⟩) (by assumption) ?_
              rotate_left 1
              · (intro w hSw; (try dsimp only at hSw); go_simp) <;> (with_reducible rfl)
              (try simp only [Act.put, List.setIfInBounds_toArray, List.set_cons_zero, List.set_cons_succ])
              refine tK (i := 3) (d := some 101) (v := ?_) rfl rfl (fun _ _ _ h => h) (Or.inl ⟨by rfl, ?_⟩) (by assumption) ?_
              rotate_left 1
              · (intro w hSw; (try dsimp only at hSw); go_simp) <;> (with_reducible rfl)
              (try simp only [Act.put, List.setIfInBounds_toArray, List.set_cons_zero, List.set_cons_succ])
              refine tK (i := 4) (d := some 102) (v := ?_) rfl rfl (fun _ _ _ h => h) (Or.inl ⟨by rfl, ?_⟩) (by assumption) ?_
              rotate_left 1
              · (intro w hSw; (try dsimp only at hSw); go_simp) <;> (with_reducible rfl)
              (try simp only [Act.put, List.setIfInBounds_toArray, List.set_cons_zero, List.set_cons_succ])
              refine tK (i := 5) (d := some 103) (v := ?_) rfl rfl (fun _ _ _ h => h) (Or.inl ⟨by rfl, ?_⟩) (by assumption) ?_
              rotate_left 1
              · (intro w hSw; (try dsimp only at hSw); go_simp) <;> (with_reducible rfl)
              (try simp only [Act.put, List.setIfInBounds_toArray, List.set_cons_zero, List.set_cons_succ])
              refine tK (i := 6) (d := some 104) (v := ?_) rfl rfl (fun _ _ _ h => h) (Or.inl ⟨by rfl, ?_⟩) (by assumption) ?_
              rotate_left 1
              · (intro w hSw; (try dsimp only at hSw); go_simp) <;> (with_reducible rfl)
              (try simp only [Act.put, List.setIfInBounds_toArray, List.set_cons_zero, List.set_cons_succ])
              refine tK (i := 7) (d := some 105) (v := ?_) rfl rfl (fun _ _ _ h => h) (Or.inl ⟨by rfl, ?_⟩) (by assumption) ?_
              rotate_left 1
              · (intro w hSw; (try dsimp only at hSw); go_simp) <;> (with_reducible rfl)
              (try simp only [Act.put, List.setIfInBounds_toArray, List.set_cons_zero, List.set_cons_succ])
              refine stepL (i := 8) (by kernel_rfl) rfl (fun K' hK => ?_)
              go_simp
              refine (AS _ Sx).mono ?_
              rintro e _ ⟨E3, f3, rfl, hown3, ⟨z6, rfl⟩⟩
              have hz6 := z6.size
              (try simp at hz6)
              have hr3 := HB.out.2.2.1.of (show SinceOf z3.wd z6.wd from Sx)
              have r31 := hr3.c1
              have f31 := hr3.free 1
              have hO3 := hr3.old
              go_wp2_with fail
              refine hK.out _ _ ?_ (fun hHeld1 => ?_)
              · simp [go_sem, *]
              clear hK K' hHeld0
              refine tK (i := 9) (d := some 107) (v := ?_) rfl rfl (fun _ _ _ h => h) (Or.inl ⟨by rfl, ?_⟩) (by assumption) ?_
              rotate_left 1
              · (intro w hSw; (try dsimp only at hSw); go_simp) <;> (with_reducible rfl)
              (try simp only [Act.put, List.setIfInBounds_toArray, List.set_cons_zero, List.set_cons_succ])
              refine lastL (i := 10) (by kernel_rfl) (by rfl) rfl (fun K' hK => ?_)
              go_simp
              refine hK.out _ _ ?_
              refine doneL (by kernel_rfl) ?_ _
              go_wp2_with fail
              go_roundg (pd.length - (i + 1))
              case measure => omega
              case rel =>
                refine ⟨i + 1, E3, f3, hlt2, Nat.le_refl _, by go_num, ?_, ?_, ?_⟩
                · rw [HM2.out, HB.out.2.2.2.1]; exact hr3.set1 _
                · rw [HM2.out, HB.out.2.2.2.1]; have hlt5 := HB.out.2.2.1.lt; exact (hown3.base_le (by first | omega | (simp; omega))).setOther (Nat.lt_succ_self _)
                · exact SinceOf.setCell (show SinceOf z2.wd z6.wd from Sx) (Nat.le_refl _) _
            · go_wp2_with fail
              refine (CI _ Sx).calls.mono ?_
              rintro e _ ⟨rfl, z4, rfl⟩
              go_wp2_with fail
              go_roundg (pd.length - (i + 1))
              case measure => omega
              case rel => exact ⟨i + 1, M, mc, hlt2, Nat.le_refl _, by go_num, by rw [HB.out.1, if_pos trivial, ← HMU.out.1]; exact HB.out.2.2.1.of Sx, by rw [HB.out.1, if_pos trivial, ← HMU.out.1]; exact HB.out.2.1.of Sx, Sx⟩
          · have hil : i = pd.length := by omega
            rw [hil] at hres hM
            have hml3 := HV.out.2.2.1 pd.length
            have hul := upAll_len (mv pd.length)
            obtain ⟨ml, hmld⟩ : ∃ q, q = upAll [] (mv pd.length) := ⟨_, rfl⟩
            rw [← hmld] at hres hM hul
            rw [hil]
            have hz3 := z3.size
            have RS := G.out.1 C c1 m
            have hr2 := HV.out.2.2.2.2
            rw [← upAll_sort (mv pd.length), ← upAll_sort, ← hmld] at hr2
            have hrin : ∀ r ∈ restV P m, (0 ≤ r ∧ r < L.length) ∧ ∀ y ∈ m, y.job ≠ r := fun r hr => by
              obtain ⟨q, rfl, h1, -, h2⟩ := H.out.2.2.2.2.2.1 m r hr
              rw [hLE] at h1
              exact ⟨by omega, h2⟩
            have hrnd : (restV P m).Nodup := H.out.2.2.2.2.2.2 m
            have hrll : (restV P m).length < 1000000 := by
              unfold restV
              rw [(sortD_perm _ _).length_eq]
              have := freeL_length_le P m P.L.length
              omega
            obtain ⟨rl, hrl⟩ : ∃ q, q = restV P m := ⟨_, rfl⟩
            rw [← hrl] at RS hr2 hrin hrnd hrll
            have HR3 := Lib.hid (And.intro hr2 (And.intro hrin (And.intro hrnd (And.intro hres hM))))
            have HRL := Lib.hid hrl
            clear hr2 hrin hrnd hres hM hmld hil hrl hul
            go_wp2_with fail
            (with_reducible refine (RS _ Sx ((HO.out.isRow encS_len).of Sx) (by omega)).mono ?_)
            rintro e _ ⟨RC, rc, rfl, hRC, ⟨z4, rfl⟩⟩
            have hz4 := z4.size
            have hoz : z2.wd.heap.size < z4.wd.heap.size := by have := HR3.out.2.2.2.1.lt; omega
            have HR4 := Lib.hid (hRC.base_le (show w.heap.size ≤ _ by first | omega | (simp; omega)))
            clear hRC RS
            go_wp2_with fail
            go_loopg [6, 13] rl.length (fun gas s6 s13 wr => ∃ (j : Nat) (l : List SlotR) (left : List Int) (C5 : Option Addr) (c5 : Nat) (E : Option Addr) (ec : Nat), j ≤ rl.length ∧ rl.length - j ≤ gas ∧ s6 = .slice C5 l.length c5 ∧ s13 = .int .i64 j ∧ Owns encS 4 (w.heap.size + 1 + 1) 77 wr C5 c5 l ∧ ResRAt wr z2.wd.heap.size (.slice none 0 0) (.slice M ml.length mc) (.slice E (upAll [] left).length ec) ∧ Owns encN 1 (z2.wd.heap.size + 1) 3 wr M mc ml ∧ Owns encN 1 (z2.wd.heap.size + 1) 3 wr E ec (upAll [] left) ∧
              dispAll ⟨sA, sc, cals, sB, sd, R, most⟩ L m [] rl = dispAll ⟨sA, sc, cals, sB, sd, R, most⟩ L l left (rl.drop j) ∧ GoodS ⟨sA, sc, cals, sB, sd, R, most⟩ L l ∧ (∀ y ∈ l, ∀ r ∈ rl.drop j, y.job ≠ r) ∧ l.length ≤ m.length + j ∧ left.length ≤ j ∧ z4.wd.heap.size ≤ wr.heap.size ∧ Owns encN 1 w.heap.size 3 wr RC rc rl ∧ SinceOf ((w.alloc (.cells #[.slice sA cals.length sc, .slice sB R.length sd, .int .i64 most, .slice A L.length c, .slice gA bg.length gc, .slice pA pd.length pc, .slice dA L.length dc] 52)).alloc (.cells #[.slice none 0 0, .slice none 0 0, .slice none 0 0] 65)) wr)
            case atStart =>
              exact ⟨0, m, [], C, c1, none, 0, by omega, by omega, rfl, rfl, HO.out.of Sx, HR3.out.2.2.2.1.of Sx, HR3.out.2.2.2.2.of Sx, Owns.nil _ _ _ _ _, by rw [List.drop_zero], HV.out.1.2, fun y hy r hr => (HR3.out.2.1 r (List.mem_of_mem_drop hr)).2 y hy, by omega, by simp, Nat.le_refl _, HR4.out, Sx⟩
            case round =>
              obtain ⟨j, l, left, C5, c5, E, ec, hj, hgas3, rfl, rfl, hl5, hres5, hM5, hE5, hda, hgl, hnin, hln, hlfn, hz45, hRC5, ⟨z5, rfl⟩⟩ := hrel
              by_cases hlt3 : j < rl.length
              · have hL0 : ∀ q : Nat, q < L.length → 0 ≤ (jobAt L q).rel ∧ (jobAt L q).rel ≤ 1000000 := fun q hq => by
                  have := (job_parts (check_job HV.out.1.1 (List.getElem_mem hq))).2.2.2.2.1
                  rw [← jobAt_at hq] at this
                  exact this
                have hcap5 := hl5.le_cap
                have hz5 := z5.size
                simp at hz5
                obtain ⟨hrr, -⟩ := HR3.out.2.1 rl[j] (List.getElem_mem hlt3)
                have hask : askedE L l rl[j] = 0 := askedE_ok hrr.1 hrr.2 (fun y hy => hnin y hy rl[j] (by rw [List.drop_eq_getElem_cons hlt3]; exact List.mem_cons.2 (.inl rfl)))
                have hvl : (validT ⟨sA, sc, cals, sB, sd, R, most⟩ L l).2 = 0 := validT_zero.2 ⟨HV.out.1.1, hgl⟩
                have DI := G.out.2.2.1 C5 c5 l rl[j]
                have hdr : dispR ⟨sA, sc, cals, sB, sd, R, most⟩ L l rl[j] = (slotOr (dispatchV ⟨sA, sc, cals, sB, sd, R, most⟩ L l rl[j]), (dispatchV ⟨sA, sc, cals, sB, sd, R, most⟩ L l rl[j]).isSome, 0) := by unfold dispR; rw [if_pos hvl, if_pos hask]
                rw [hdr] at DI
                unfold dispTup at DI
                simp only at DI
                rw [List.drop_eq_getElem_cons hlt3] at hda hnin
                have hnd2 : ∀ r ∈ rl.drop (j + 1), rl[j] ≠ r := by
                  have h9 : (rl.drop j).Nodup := (List.drop_sublist _ _).nodup HR3.out.2.2.1
                  rw [List.drop_eq_getElem_cons hlt3, List.nodup_cons] at h9
                  intro r hr e
                  exact h9.1 (by rw [e]; exact hr)
                obtain ⟨gr, orr, rfl, hrr5⟩ := (hRC5.isRow encN_len).at_ (by omega)
                have hOr := hrr5.there
                have rj := hrr5.n0 j hlt3
                obtain ⟨q, hq⟩ : ∃ q : Nat, rl[j] = q := ⟨rl[j].toNat, by omega⟩
                have hql : q < L.length := by omega
                have hrel := (hL0 q hql).1
                have hgv : ∀ y, dispatchV ⟨sA, sc, cals, sB, sd, R, most⟩ L l rl[j] = some y → GoodS ⟨sA, sc, cals, sB, sd, R, most⟩ L (l ++ [y]) ∧ y.job = rl[j] := fun y hy => by
                  rw [hq] at hy ⊢
                  exact ⟨validV_good.1 (dispatch_valid hrel hy), (dispatch_named hy).1⟩
                have hOo := hres5.old
                have r2 := hres5.c2
                have f2 := hres5.free 2
                have hup := upAll_up left
                have hul := upAll_len left
                have hsn := upAll_snoc left rl[j]
                obtain ⟨lu, hlu⟩ : ∃ q, q = upAll [] left := ⟨_, rfl⟩
                rw [← hlu] at r2 hres5 hE5 hup hul hsn
                have hcapE := hE5.le_cap
                obtain ⟨dv, hdv⟩ : ∃ dv, dispatchV ⟨sA, sc, cals, sB, sd, R, most⟩ L l rl[j] = dv := ⟨_, rfl⟩
                rw [hdv] at DI hgv
                have HD := Lib.hid (And.intro hdv (And.intro hup (And.intro hsn hlu)))
                have H5 := Lib.hid (And.intro hl5 (And.intro hres5 (And.intro hM5 (And.intro hE5 (And.intro hRC5 (And.intro hda (And.intro hgl (And.intro hnin (And.intro hnd2 hgv)))))))))
                have hlub : lu.length < 1000000 := by omega
                clear hl5 hres5 hM5 hE5 hRC5 hda hgl hnin hnd2 hgv hdv hL0 hask hvl hdr hrr5 hrel hrr hq hup hsn hlu hul
                generalize rl[j] = rj0 at *
                cases dv with
                | none =>
                  simp only [slotOr, Option.getD_none, Option.isSome_none] at DI
                  have AS := fun W (hW : SinceOf z5.wd W) => refAsc54_any E ec lu rj0 W ((H5.out.2.2.2.1.isRow encN_len).of hW) HD.out.2.1 (by omega) hcapE
                  go_wp2_with fail
                  go_region_held3 (fun w' => w'.cell? ⟨w.heap.size, 0, none⟩ = some (.slice sA cals.length sc) ∧ w'.cell? ⟨w.heap.size, 1, none⟩ = some (.slice sB R.length sd) ∧ w'.cell? ⟨w.heap.size, 2, none⟩ = some (.int .i64 most) ∧ w'.cell? ⟨w.heap.size, 3, none⟩ = some (.slice A L.length c) ∧ w'.cell? ⟨gr, orr + j, none⟩ = some (.int .i64 rj0)) ((simp [go_sem, *]))
                    (first | (go_at_call 59; refine (DI _ Sx ((H5.out.1.isRow encS_len).of Sx) (by omega) hcap5).calls.mono ?_; rintro e _ ⟨rfl, z6, rfl⟩; have hz6 := z6.size; (try simp at hz6)))
                  all_goals go_wp2_with fail
                  all_goals
                    refine regionL [8] (S := (fun w' => w'.cell? ⟨z2.wd.heap.size, 2, none⟩ = some (.slice E lu.length ec) ∧ w'.cell? ⟨gr, orr + j, none⟩ = some (.int .i64 rj0))) (by kernel_rfl) ?_ (fun hHeld0 => ?_)
                    · simp [go_sem, *]
                    refine tK (i := 0) (d := some 136) (v := ?_) rfl rfl (fun _ _ _ h => h) (Or.inl ⟨by rfl, ?_⟩) (by assumption) ?_
                    rotate_left 1
                    · (intro w hSw; (try dsimp only at hSw); go_simp) <;> (with_reducible rfl)
                    (try simp only [Act.put, List.setIfInBounds_toArray, List.set_cons_zero, List.set_cons_succ])
                    refine tK (i := 1) (d := some 137) (v := ?_) rfl rfl (fun _ _ _ h => h) (Or.inl ⟨by rfl, ?_⟩) (by assumption) ?_
                    rotate_left 1
                    · (intro w hSw; (try dsimp only at hSw); go_simp) <;> (with_reducible rfl)
                    (try simp only [Act.put, List.setIfInBounds_toArray, List.set_cons_zero, List.set_cons_succ])
                    refine tK (i := 2) (d := some 138) (v := ?_) rfl rfl (fun _ _ _ h => h) (Or.inl ⟨by rfl, ?_⟩) (by assumption) ?_
                    rotate_left 1
                    · (intro w hSw; (try dsimp only at hSw); go_simp) <;> (with_reducible rfl)
                    (try simp only [Act.put, List.setIfInBounds_toArray, List.set_cons_zero, List.set_cons_succ])
                    refine tK (i := 3) (d := some 139) (v := ?_) rfl rfl (fun _ _ _ h => h) (Or.inl ⟨by rfl, ?_⟩) (by assumption) ?_
                    rotate_left 1
                    · (intro w hSw; (try dsimp only at hSw); go_simp) <;> (with_reducible rfl)
                    (try simp only [Act.put, List.setIfInBounds_toArray, List.set_cons_zero, List.set_cons_succ])
                    refine tK (i := 4) (d := some 140) (v := ?_) rfl rfl (fun _ _ _ h => h) (Or.inl ⟨by rfl, ?_⟩) (by assumption) ?_
                    rotate_left 1
                    · (intro w hSw; (try dsimp only at hSw); go_simp) <;> (with_reducible rfl)
                    (try simp only [Act.put, List.setIfInBounds_toArray, List.set_cons_zero, List.set_cons_succ])
                    refine tK (i := 5) (d := some 141) (v := ?_) rfl rfl (fun _ _ _ h => h) (Or.inl ⟨by rfl, ?_⟩) (by assumption) ?_
                    rotate_left 1
                    · (intro w hSw; (try dsimp only at hSw); go_simp) <;> (with_reducible rfl)
                    (try simp only [Act.put, List.setIfInBounds_toArray, List.set_cons_zero, List.set_cons_succ])
                    refine stepL (i := 6) (by kernel_rfl) rfl (fun K' hK => ?_)
                    go_simp
                    refine (AS _ Sx).mono ?_
                    rintro e _ ⟨E3, f3, rfl, hown3, ⟨z7, rfl⟩⟩
                    have hz7 := z7.size
                    (try simp at hz7)
                    have hr3 := H5.out.2.1.of (show SinceOf z5.wd z7.wd from Sx)
                    have r31 := hr3.c2
                    have f31 := hr3.free 2
                    have hO3 := hr3.old
                    go_wp2_with fail
                    refine hK.out _ _ ?_ (fun hHeld1 => ?_)
                    · simp [go_sem, *]
                    clear hK K' hHeld0
                    refine tK (i := 7) (d := some 143) (v := ?_) rfl rfl (fun _ _ _ h => h) (Or.inl ⟨by rfl, ?_⟩) (by assumption) ?_
                    rotate_left 1
                    · (intro w hSw; (try dsimp only at hSw); go_simp) <;> (with_reducible rfl)
                    (try simp only [Act.put, List.setIfInBounds_toArray, List.set_cons_zero, List.set_cons_succ])
                    refine lastL (i := 8) (by kernel_rfl) (by rfl) rfl (fun K' hK => ?_)
                    go_simp
                    refine hK.out _ _ ?_
                    refine doneL (by kernel_rfl) ?_ _
                    go_wp2_with fail
                    go_roundg (rl.length - (j + 1))
                    case measure => omega
                    case rel =>
                      have SS := SameBut.setRRes (es := [65]) hr3 (by simp) 2 (.slice E3 (upI rj0 lu).length f3)
                      refine ⟨j + 1, l, left ++ [rj0], C5, c5, E3, f3, hlt3, Nat.le_refl _, rfl, by go_num, ?_, ?_, ?_, ?_, H5.out.2.2.2.2.2.1.trans (dispAll_none HD.out.1), H5.out.2.2.2.2.2.2.1, fun y hy r hr => H5.out.2.2.2.2.2.2.2.1 y hy r (List.mem_cons_of_mem _ hr), by omega, by simp; omega, ?_, ?_, ?_⟩
                      · exact (H5.out.1.of Sx).sameBut (by simp) SS
                      · rw [upAll_snoc, ← HD.out.2.2.2]; exact hr3.set2 _
                      · exact (H5.out.2.2.1.of Sx).sameBut (by simp) SS
                      · rw [upAll_snoc, ← HD.out.2.2.2]; exact (hown3.base_le (by first | omega | (simp; omega))).sameBut (by simp) SS
                      · simp; omega
                      · exact (H5.out.2.2.2.2.1.of Sx).sameBut (by simp) SS
                      · exact SinceOf.setCell Sx (by simp; omega) _
                | some y =>
                  obtain ⟨y0, y1, y2, y3⟩ := y
                  simp only [slotOr, Option.getD_some, Option.isSome_some] at DI
                  go_wp2_with fail
                  go_region_held3 (fun w' => w'.cell? ⟨w.heap.size, 0, none⟩ = some (.slice sA cals.length sc) ∧ w'.cell? ⟨w.heap.size, 1, none⟩ = some (.slice sB R.length sd) ∧ w'.cell? ⟨w.heap.size, 2, none⟩ = some (.int .i64 most) ∧ w'.cell? ⟨w.heap.size, 3, none⟩ = some (.slice A L.length c) ∧ w'.cell? ⟨gr, orr + j, none⟩ = some (.int .i64 rj0)) ((simp [go_sem, *]))
                    (first | (go_at_call 59; refine (DI _ Sx ((H5.out.1.isRow encS_len).of Sx) (by omega) hcap5).calls.mono ?_; rintro e _ ⟨rfl, z6, rfl⟩; have hz6 := z6.size; (try simp at hz6)))
                  all_goals go_wp2_with (at_builtin; refine wpList_append_row rfl (.tmp 132) (.tmp 134) 29 rfl encS_len (by omega) encS_one i0 _ 32 Tryz.underlying29 HI.out.1 HI.out.2.1 HI.out.2.2.1 HI.out.2.2.2 rfl (l := l) (A := C5) (c := c5) (base := w.heap.size + 1 + 1) rfl (H5.out.1.of Sx) (m := [⟨y0, y1, y2, y3⟩]) rfl (rowS_at _ _ ⟨y0, y1, y2, y3⟩ _ (by first | rfl | simp)) (by unfold maxLen; simp; omega) (by simp; omega) (by simp; omega) ?_; intro E3 f3 w3 hown3 hgr3 hbl3; have SB : SameBut [77] z5.wd w3 := (SameBut.since Sx).trans (SameBut.grown hgr3 (fun g5 hg5 => by obtain ⟨cur, hc⟩ := H5.out.1.typed g5 hg5; exact ⟨cur, _, _, List.mem_singleton.2 rfl, SameBut.since (es := []) Sx g5 cur _ _ (by simp) hc⟩)); have hgs := hgr3.size; (try simp at hgs))
                  all_goals
                    obtain ⟨hg2, hj2⟩ := H5.out.2.2.2.2.2.2.2.2.2 ⟨y0, y1, y2, y3⟩ rfl
                    have HY := Lib.hid (And.intro hg2 hj2)
                    clear hg2 hj2
                    go_roundg (rl.length - (j + 1))
                    case measure => omega
                    case rel =>
                      refine ⟨j + 1, l ++ [⟨y0, y1, y2, y3⟩], left, E3, f3, E, ec, hlt3, Nat.le_refl _, by rw [List.length_append]; rfl, by go_num, hown3, by rw [← HD.out.2.2.2]; exact H5.out.2.1.sameBut SB (by simp), H5.out.2.2.1.sameBut (by simp) SB, by rw [← HD.out.2.2.2]; exact H5.out.2.2.2.1.sameBut (by simp) SB, H5.out.2.2.2.2.2.1.trans (dispAll_some HD.out.1), HY.out.1, fun y hy r hr => ?_, by simp; omega, by omega, by omega, H5.out.2.2.2.2.1.sameBut (by simp) SB, ?_⟩
                      · rcases List.mem_append.1 hy with hy | hy
                        · exact H5.out.2.2.2.2.2.2.2.1 y hy r (List.mem_cons_of_mem _ hr)
                        · rw [List.mem_singleton] at hy
                          subst hy
                          rw [HY.out.2]
                          exact H5.out.2.2.2.2.2.2.2.2.1 r hr
                      · refine SinceOf.grown Sx hgr3 (fun q2 hq2 => ?_)
                        have := (H5.out.1.below q2 hq2).1
                        simp
                        omega
              · have hjl : j = rl.length := by omega
                have hr9 : res = (0, ⟨l, ml, upAll [] left⟩) := by
                  rw [HR3.out.1, hda, hjl, List.drop_length]
                  rfl
                subst hr9
                have hz5 := z5.size
                simp at hz5
                have hzz := z2.size
                have hcapl := hl5.le_cap
                obtain ⟨lu, hlu⟩ : ∃ q, q = upAll [] left := ⟨_, rfl⟩
                rw [← hlu] at hres5 hE5
                have HLU := Lib.hid hlu
                have hOo := hres5.old
                have r0 := hres5.c0
                have r1 := hres5.c1
                have r2 := hres5.c2
                have f0 := hres5.free 0
                have hlb := hl5.below
                have hMb := hM5.below
                have hEb := hE5.below
                have SS := SameBut.setRRes (es := [65]) hres5 (by simp) 0 (.slice C5 l.length c5)
                have HF := Lib.hid (And.intro hl5 (And.intro hM5 (And.intro hE5 (And.intro SS (And.intro hlb (And.intro hMb hEb))))))
                have HR6 := Lib.hid hres5
                have pa1 : Nonempty (Apart z2.wd.heap.size (w.heap.size + 1)) := ⟨⟨by omega⟩⟩
                have pa2 : Nonempty (Apart (w.heap.size + 1) z2.wd.heap.size) := ⟨⟨by omega⟩⟩
                clear hl5 hM5 hE5 SS hlb hMb hEb hres5 hRC5 hda hgl hnin hjl hlu
                go_wp2_with fail
                go_returns
                have n1 : ∀ b, blockOf C5 = some b → b ≠ w.heap.size + 1 := fun b hb => by have := (HF.out.2.2.2.2.1 b hb).1; omega
                have n2 : ∀ b, blockOf M = some b → b ≠ w.heap.size + 1 := fun b hb => by have := (HF.out.2.2.2.2.2.1 b hb).1; omega
                have n3 : ∀ b, blockOf E = some b → b ≠ w.heap.size + 1 := fun b hb => by have := (HF.out.2.2.2.2.2.2 b hb).1; omega
                refine ⟨⟨⟨l, ml, lu⟩, C5, c5, M, mc, E, ec⟩, rfl, by rw [HLU.out], ⟨?_, ?_, ?_, hcapl⟩, ⟨fun b hb => by have := (HF.out.2.2.2.2.1 b hb).1; omega, fun b hb => by have := (HF.out.2.2.2.2.2.1 b hb).1; omega, fun b hb => by have := (HF.out.2.2.2.2.2.2 b hb).1; omega⟩, ?_⟩
                · exact ((((HF.out.1.sameBut (by simp) HF.out.2.2.2.1).isRow encS_len).setOther _ _ _ n1).setOther _ _ _ n1).setOther _ _ _ n1
                · exact ((((HF.out.2.1.sameBut (by simp) HF.out.2.2.2.1).isRow encN_len).setOther _ _ _ n2).setOther _ _ _ n2).setOther _ _ _ n2
                · exact ((((HF.out.2.2.1.sameBut (by simp) HF.out.2.2.2.1).isRow encN_len).setOther _ _ _ n3).setOther _ _ _ n3).setOther _ _ _ n3
                · exact SinceOf.setCell (SinceOf.setCell (SinceOf.setCell (SinceOf.setCell (show SinceOf w z5.wd from Sx) (by show w.heap.size ≤ z2.wd.heap.size; omega) _) (show w.heap.size ≤ w.heap.size + 1 by omega) _) (show w.heap.size ≤ w.heap.size + 1 by omega) _) (show w.heap.size ≤ w.heap.size + 1 by omega) _
      · have hr2 : res = (31, noRes) := by rw [hr1, if_neg (by rw [hvt]; exact hve)]
        have hve2 : (ve != 0) = true := by simpa using hve
        subst hr2
        have HO := Lib.hid (hown.isRow encS_len)
        clear hown hr1 hkb hm2 hkT hvt hve hlk
        go_wp2_with fail
        (with_reducible refine (VA _ Sx (HO.out.of Sx) (by omega) hcap).calls.mono ?_)
        rintro e _ ⟨rfl, z2, rfl⟩
        go_wp2_with fail
        go_returns
        exact ⟨zeroM, rfl, rfl, zeroM_is _, zeroM_fresh _, Sx⟩
end Go.Proofs.YtpaojgfmffkodaaGreat
/- Layer 54: the reference's insert. -/
namespace Go.Proofs.YtpaojgfmffkodaaGreat
set_option linter.unusedVariables false
set_option linter.unusedSimpArgs false
open Go.RowKit Go.Sort
attribute [local go_sem ↓] Go.wp_at_zero Go.wp_at_succ
end Go.Proofs.YtpaojgfmffkodaaGreat
