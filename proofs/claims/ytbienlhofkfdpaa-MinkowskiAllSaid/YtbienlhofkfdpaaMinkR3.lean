/- Layer 15: Sum of the reference and of the program, for any two rings. -/
import Derived.Test.YtbienlhofkfdpaaMinkR2
namespace Go.Proofs.Ytbienlhofkfdpaa
open Go.RowKit Go.Sort
set_option linter.unusedVariables false
set_option linter.unusedSimpArgs false
attribute [local go_sem ↓] Go.wp_at_zero Go.wp_at_succ

/-- What Sum gives: the hull of the sums, or an error. -/
def SumV (r s : List Pt) (out : List Pt × Int) : Prop := if validB r = true ∧ validB s = true then SumIs r s out else out = ([], 11)
theorem SumV.unique {r s : List Pt} {a b : List Pt × Int} (h : SumV r s a) (k : SumV r s b) : a = b := by
  unfold SumV at h k
  split at h
  · rw [if_pos (by assumption)] at k; exact h.unique k
  · rw [if_neg (by assumption)] at k; rw [h, k]
theorem SumV.no1 {r s : List Pt} (h : validB r = false) : SumV r s ([], 11) := by unfold SumV; rw [if_neg (by simp [h])]
theorem SumV.no2 {r s : List Pt} (h : validB s = false) : SumV r s ([], 11) := by unfold SumV; rw [if_neg (by simp [h])]
theorem SumV.yes {r s : List Pt} {out : List Pt × Int} (h : validB r = true) (k : validB s = true) : SumV r s out ↔ SumIs r s out := by unfold SumV; rw [if_pos ⟨h, k⟩]
theorem sums2_take {r s : List Pt} {i : Nat} (h : i < r.length) : sums2 (r.take (i + 1)) s = sums2 (r.take i) s ++ s.map (addP r[i]) := by
  unfold sums2
  rw [List.take_succ_eq_append_getElem h, List.flatMap_append]
  simp
theorem sums2_len (r s : List Pt) : (sums2 r s).length = r.length * s.length := by
  unfold sums2
  induction r with
  | nil => simp
  | cons a r ih => simp only [List.flatMap_cons, List.length_append, List.length_map, List.length_cons, ih]; rw [Nat.succ_mul]; omega
theorem sums2_near {r s : List Pt} (hr : ∀ p ∈ r, near 8000 p) (hs : ∀ p ∈ s, near 8000 p) : ∀ q ∈ sums2 r s, near 20000 q := fun q hq => by
  obtain ⟨a, ha, b, hb, rfl⟩ := mem_sums2.1 hq
  have := hr a ha
  have := hs b hb
  unfold near addP at *
  simp only
  omega
/-- Two valid rings have a sum. -/
theorem sum_ex {r s : List Pt} (hr : Conv15 r) (hs : Conv15 s) : ∃ u, HullY (sums2 r s) u := by
  have h3 := hr.1
  have mk : ∀ {r : List Pt}, Conv15 r → ∃ k, k < r.length ∧ ∀ j, j < r.length → ¬ lexy (at0 r j) (at0 r k) := fun {r} hr => by
    have h3 := hr.1
    obtain ⟨k, hk, hm⟩ := exists_least (lin 1 40001) (r := r) (by intro e; rw [e] at h3; simp at h3)
    refine ⟨k, hk, fun j hj hl => ?_⟩
    have n1 := hr.2.2.1 _ (at0_mem hj)
    have n2 := hr.2.2.1 _ (at0_mem hk)
    have := lexy_lin (by unfold near at *; omega) (by unfold near at *; omega) hl
    have := hm _ (at0_mem hj)
    omega
  obtain ⟨k, hk, h1⟩ := mk hr
  obtain ⟨m, hm, h2⟩ := mk hs
  have l1 := rotL_length (r := r) (Nat.le_of_lt hk)
  have l2 := rotL_length (r := s) (Nat.le_of_lt hm)
  have d1 := dirs_dir (n := r.length) hr hk
  have d2 := dirs_dir (n := s.length) hs hm
  have hd : ∀ x ∈ dirsK (rotL k r) r.length ++ dirsK (rotL m s) s.length, Dir16 x := fun x hx => by
    rcases List.mem_append.1 hx with q | q
    · exact d1 x q
    · exact d2 x q
  obtain ⟨s1, s2⟩ := insertion_spec ord_elt (a := 0) (b := (dirsK (rotL k r) r.length ++ dirsK (rotL m s) s.length).length) (dirsK (rotL k r) r.length ++ dirsK (rotL m s) s.length) (fun x hx => (hd x hx).dir) (Nat.le_refl _)
  generalize (insertionSort elt _ _ _).toList = T at s1 s2
  have M : Merged (rotL k r) (rotL m s) T := ⟨conv_begun hr hk h1, conv_begun hs hm h2, by rw [l1, l2]; exact s1.perm, by rw [s1.len]; exact s2⟩
  have H := M.hull
  exact ⟨_, H.more (fun q hq => (mem_sums2_rot q).2 hq) (fun v hv => (mem_sums2_rot v).1 (H.hull.sub v hv))⟩
set_option maxRecDepth 100000 in
set_option maxHeartbeats 16000000 in
theorem refSum_any (A B : Option Addr) (c d : Nat) (r s : List (Int × Int)) (w : World) (h : IsVecs w A c r) (h2 : IsVecs w B d s) (hn1 : r.length < 4611686018427387904) (hn2 : s.length < 4611686018427387904) :
    Calls Try.prog 16 #[.slice A r.length c, .slice B s.length d] w fun e w' => ∃ A' c' out, e = .returned (.tuple #[.slice A' out.1.length c', .int .i64 out.2]) ∧ SumV r s out ∧ IsVecs w' A' c' out.1 ∧ out.1.length ≤ c' ∧ (∀ b, blockOf A' = some b → w.heap.size ≤ b) ∧ SinceOf w w' := by
  have VR := fun W (hW : SinceOf w W) => refValid_any A c r W (h.of hW) hn1
  have VS := fun W (hW : SinceOf w W) => refValid_any B d s W (h2.of hW) hn2
  have H := Lib.hid (And.intro h h2)
  clear h h2
  cases hr : validB r
  · rw [hr] at VR
    have HV := Lib.hid hr
    clear hr
    go_enter Try.func16, Try.ntmps16
    go_wp2_with fail
    refine (VR _ (by (repeat (first | (with_reducible exact SinceOf.refl _) | (with_reducible assumption) | (with_reducible refine SinceOf.alloc ?_ _) | (with_reducible refine SinceOf.drew ?_) | (with_reducible refine SinceOf.drewN ?_ _) | (with_reducible refine SinceOf.later ?_ _) | (with_reducible refine SinceOf.further ?_ _) | (with_reducible refine SinceOf.setCell ?_ (by first | exact Nat.le_refl _ | (simp; done) | omega | (simp; omega)) _))))).calls.mono ?_
    rintro e _ ⟨rfl, x1, rfl⟩
    go_wp2_with fail
    go_returns
    exact ⟨none, 0, ([], 11), rfl, SumV.no1 HV.out, IsRow.nil _ _ _, Nat.le_refl _, (fun b hb => by cases hb), by (repeat (first | (with_reducible exact SinceOf.refl _) | (with_reducible assumption) | (with_reducible refine SinceOf.alloc ?_ _) | (with_reducible refine SinceOf.drew ?_) | (with_reducible refine SinceOf.drewN ?_ _) | (with_reducible refine SinceOf.later ?_ _) | (with_reducible refine SinceOf.further ?_ _) | (with_reducible refine SinceOf.setCell ?_ (by first | exact Nat.le_refl _ | (simp; done) | omega | (simp; omega)) _)))⟩
  cases hs : validB s
  · rw [hr] at VR
    rw [hs] at VS
    have HV := Lib.hid hs
    clear hr hs
    go_enter Try.func16, Try.ntmps16
    go_wp2_with fail
    refine (VR _ (by (repeat (first | (with_reducible exact SinceOf.refl _) | (with_reducible assumption) | (with_reducible refine SinceOf.alloc ?_ _) | (with_reducible refine SinceOf.drew ?_) | (with_reducible refine SinceOf.drewN ?_ _) | (with_reducible refine SinceOf.later ?_ _) | (with_reducible refine SinceOf.further ?_ _) | (with_reducible refine SinceOf.setCell ?_ (by first | exact Nat.le_refl _ | (simp; done) | omega | (simp; omega)) _))))).calls.mono ?_
    rintro e _ ⟨rfl, x1, rfl⟩
    go_wp2_with fail
    refine (VS _ (by (repeat (first | (with_reducible exact SinceOf.refl _) | (with_reducible assumption) | (with_reducible refine SinceOf.alloc ?_ _) | (with_reducible refine SinceOf.drew ?_) | (with_reducible refine SinceOf.drewN ?_ _) | (with_reducible refine SinceOf.later ?_ _) | (with_reducible refine SinceOf.further ?_ _) | (with_reducible refine SinceOf.setCell ?_ (by first | exact Nat.le_refl _ | (simp; done) | omega | (simp; omega)) _))))).calls.mono ?_
    rintro e _ ⟨rfl, x2, rfl⟩
    go_wp2_with fail
    go_returns
    exact ⟨none, 0, ([], 11), rfl, SumV.no2 HV.out, IsRow.nil _ _ _, Nat.le_refl _, (fun b hb => by cases hb), by (repeat (first | (with_reducible exact SinceOf.refl _) | (with_reducible assumption) | (with_reducible refine SinceOf.alloc ?_ _) | (with_reducible refine SinceOf.drew ?_) | (with_reducible refine SinceOf.drewN ?_ _) | (with_reducible refine SinceOf.later ?_ _) | (with_reducible refine SinceOf.further ?_ _) | (with_reducible refine SinceOf.setCell ?_ (by first | exact Nat.le_refl _ | (simp; done) | omega | (simp; omega)) _)))⟩
  have hcr := validB_iff.1 hr
  have hcs := validB_iff.1 hs
  obtain ⟨u, hu⟩ := sum_ex hcr hcs
  have hh := hull15_hull (sums2_near hcr.2.2.1 hcs.2.2.1) hu
  have hres : SumV r s (checkedV (hull15V (sums2 r s))) := (SumV.yes hr hs).2 ⟨u, hu, by rw [hh]⟩
  rw [hr] at VR
  rw [hs] at VS
  have r3 := hcr.1
  have s3 := hcs.1
  have r160 := hcr.2.1
  have s160 := hcs.2.1
  have hne : sums2 r s ≠ [] := fun e => by
    have := congrArg List.length e
    rw [sums2_len] at this
    have : 3 * 3 ≤ r.length * s.length := Nat.mul_le_mul r3 s3
    simp at *
    omega
  obtain ⟨i0, hi, hz0, hz1, hz2⟩ := info_parts infoVec
  have HI := Lib.hid (And.intro hi (And.intro hz0 (And.intro hz1 hz2)))
  have HC := Lib.hid (And.intro hcr.2.2.1 (And.intro hcs.2.2.1 (And.intro hres hne)))
  have hu160 : u.length ≤ 100000 := by
    have h5 : u.length ≤ (sums2 r s).length := nodup_le (by
      refine List.pairwise_iff_getElem.2 fun i j hi hj hij => ?_
      have := hu.hull.distinct (i := i) (k := j) hi hj (by omega)
      rw [at0_eq hi, at0_eq hj] at this
      exact this) hu.hull.sub
    rw [sums2_len] at h5
    have : r.length * s.length ≤ 160 * 160 := Nat.mul_le_mul r160 s160
    omega
  rw [← hh] at hu160
  clear hi hz0 hz1 hz2 hcr hcs hres hh hu hr hs hne
  go_enter Try.func16, Try.ntmps16
  go_wp2_with fail
  refine (VR _ (by (repeat (first | (with_reducible exact SinceOf.refl _) | (with_reducible assumption) | (with_reducible refine SinceOf.alloc ?_ _) | (with_reducible refine SinceOf.drew ?_) | (with_reducible refine SinceOf.drewN ?_ _) | (with_reducible refine SinceOf.later ?_ _) | (with_reducible refine SinceOf.further ?_ _) | (with_reducible refine SinceOf.setCell ?_ (by first | exact Nat.le_refl _ | (simp; done) | omega | (simp; omega)) _))))).calls.mono ?_
  rintro e _ ⟨rfl, x1, rfl⟩
  go_wp2_with fail
  refine (VS _ (by (repeat (first | (with_reducible exact SinceOf.refl _) | (with_reducible assumption) | (with_reducible refine SinceOf.alloc ?_ _) | (with_reducible refine SinceOf.drew ?_) | (with_reducible refine SinceOf.drewN ?_ _) | (with_reducible refine SinceOf.later ?_ _) | (with_reducible refine SinceOf.further ?_ _) | (with_reducible refine SinceOf.setCell ?_ (by first | exact Nat.le_refl _ | (simp; done) | omega | (simp; omega)) _))))).calls.mono ?_
  rintro e _ ⟨rfl, x2, rfl⟩
  clear VR VS
  go_wp2_with fail
  go_loopg [6, 7] r.length (fun gas s6 s7 wr => ∃ (i : Nat) (A2 : Option Addr) (c2 n2 : Nat), i ≤ r.length ∧ r.length - i ≤ gas ∧ n2 = i * s.length ∧ s6 = .slice A2 n2 c2 ∧ s7 = .int .i64 i ∧ OwnVecs w.heap.size wr A2 c2 (sums2 (r.take i) s) ∧ SinceOf w wr)
  case atStart => exact ⟨0, none, 0, 0, by omega, by omega, by omega, rfl, rfl, Owns.nil _ _ _ _ _, by (repeat (first | (with_reducible exact SinceOf.refl _) | (with_reducible assumption) | (with_reducible refine SinceOf.alloc ?_ _) | (with_reducible refine SinceOf.drew ?_) | (with_reducible refine SinceOf.drewN ?_ _) | (with_reducible refine SinceOf.later ?_ _) | (with_reducible refine SinceOf.further ?_ _) | (with_reducible refine SinceOf.setCell ?_ (by first | exact Nat.le_refl _ | (simp; done) | omega | (simp; omega)) _)))⟩
  case round =>
    obtain ⟨i, A2, c2, n2, hi, hgas, hn2, rfl, rfl, ho, ⟨z, rfl⟩⟩ := hrel
    by_cases hlt : i < r.length
    · have hil : i * s.length ≤ 160 * 160 := Nat.mul_le_mul (by omega) s160
      have htk := sums2_take (s := s) hlt
      have hsl : (sums2 (r.take i) s).length = n2 := by rw [sums2_len, List.length_take, Nat.min_eq_left (by omega), hn2]
      have hn2s : (i + 1) * s.length = n2 + s.length := by rw [hn2, Nat.add_mul, Nat.one_mul]
      have HT := Lib.hid (And.intro ho (And.intro htk (And.intro hsl hn2s)))
      clear ho htk hsl hn2s
      rw [← hn2] at hil
      clear hn2
      go_wp2_with fail
      go_loopg [6, 8] s.length (fun gas2 s6 s8 wr => ∃ (j : Nat) (A3 : Option Addr) (c3 n3 : Nat), j ≤ s.length ∧ s.length - j ≤ gas2 ∧ n3 = n2 + j ∧ s6 = .slice A3 n3 c3 ∧ s8 = .int .i64 j ∧ OwnVecs w.heap.size wr A3 c3 (sums2 (r.take i) s ++ (s.take j).map (addP r[i])) ∧ SinceOf w wr)
      case atStart => exact ⟨0, A2, c2, n2, by omega, by omega, rfl, rfl, rfl, by rw [List.take_zero, List.map_nil, List.append_nil]; exact HT.out.1.of (by (repeat (first | (with_reducible exact SinceOf.refl _) | (with_reducible assumption) | (with_reducible refine SinceOf.alloc ?_ _) | (with_reducible refine SinceOf.drew ?_) | (with_reducible refine SinceOf.drewN ?_ _) | (with_reducible refine SinceOf.later ?_ _) | (with_reducible refine SinceOf.further ?_ _) | (with_reducible refine SinceOf.setCell ?_ (by first | exact Nat.le_refl _ | (simp; done) | omega | (simp; omega)) _)))), by (repeat (first | (with_reducible exact SinceOf.refl _) | (with_reducible assumption) | (with_reducible refine SinceOf.alloc ?_ _) | (with_reducible refine SinceOf.drew ?_) | (with_reducible refine SinceOf.drewN ?_ _) | (with_reducible refine SinceOf.later ?_ _) | (with_reducible refine SinceOf.further ?_ _) | (with_reducible refine SinceOf.setCell ?_ (by first | exact Nat.le_refl _ | (simp; done) | omega | (simp; omega)) _)))⟩
      case round =>
        obtain ⟨j, A3, c3, n3, hj, hgas2, hn3, rfl, rfl, ho3, ⟨v, rfl⟩⟩ := hrel
        by_cases hlt2 : j < s.length
        · have hr0 := H.out.1.of (w' := v.wd) (by (repeat (first | (with_reducible exact SinceOf.refl _) | (with_reducible assumption) | (with_reducible refine SinceOf.alloc ?_ _) | (with_reducible refine SinceOf.drew ?_) | (with_reducible refine SinceOf.drewN ?_ _) | (with_reducible refine SinceOf.later ?_ _) | (with_reducible refine SinceOf.further ?_ _) | (with_reducible refine SinceOf.setCell ?_ (by first | exact Nat.le_refl _ | (simp; done) | omega | (simp; omega)) _))))
          obtain ⟨g, off, rfl, hr⟩ := hr0.at_ (by omega)
          have hO := hr.there
          have hs0 := H.out.2.of (w' := v.wd) (by (repeat (first | (with_reducible exact SinceOf.refl _) | (with_reducible assumption) | (with_reducible refine SinceOf.alloc ?_ _) | (with_reducible refine SinceOf.drew ?_) | (with_reducible refine SinceOf.drewN ?_ _) | (with_reducible refine SinceOf.later ?_ _) | (with_reducible refine SinceOf.further ?_ _) | (with_reducible refine SinceOf.setCell ?_ (by first | exact Nat.le_refl _ | (simp; done) | omega | (simp; omega)) _))))
          obtain ⟨g3, off3, rfl, hs⟩ := hs0.at_ (by omega)
          have hO3 := hs.there
          have a0 := hr.v0 i hlt
          have a1 := hr.v1 i hlt
          have b0 := hs.v0 j hlt2
          have b1 := hs.v1 j hlt2
          have htk2 := List.take_succ_eq_append_getElem hlt2
          have AD := refAdd_any r[i].1 r[i].2 s[j].1 s[j].2
          have nr := HC.out.1 _ (List.getElem_mem hlt)
          have ns := HC.out.2.1 _ (List.getElem_mem hlt2)
          have ex : (wadd r[i].1 s[j].1, wadd r[i].2 s[j].2) = addP r[i] s[j] := by
            unfold near at nr ns
            rw [wadd_near (n := 1) (by omega) (by omega) (by omega), wadd_near (n := 1) (by omega) (by omega) (by omega)]
            rfl
          obtain ⟨L, hL⟩ : ∃ L, L = sums2 (r.take i) s ++ (s.take j).map (addP r[i]) := ⟨_, rfl⟩
          have hL2 : sums2 (r.take i) s ++ (s.take (j + 1)).map (addP r[i]) = L ++ [(wadd r[i].1 s[j].1, wadd r[i].2 s[j].2)] := by
            rw [hL, htk2, List.map_append, List.append_assoc, ex]; rfl
          have hLl : L.length = n3 := by rw [hL, List.length_append, HT.out.2.2.1, List.length_map, List.length_take, Nat.min_eq_left (by omega), hn3]
          rw [← hL] at ho3
          have HP := Lib.hid (And.intro ho3 (And.intro hL2 hLl))
          clear ho3 hL2 hL hLl htk2 hr hr0 hs hs0 ex nr ns
          generalize wadd r[i].1 s[j].1 = sx at *
          generalize wadd r[i].2 s[j].2 = sy at *
          generalize r[i].1 = xa at *
          generalize r[i].2 = ya at *
          generalize s[j].1 = xb at *
          generalize s[j].2 = yb at *
          have hn3b : n3 ≤ 30000 := by omega
          have HN3 := Lib.hid hn3
          clear hn3
          go_wp2_with fail
          go_region_law
            (first
              | (go_simp; go_at_call 28; refine (AD _).calls.mono ?_; rintro e _ ⟨rfl, z1, rfl⟩; (try dsimp only))
              | (refine step_append_row (by rfl) (.tmp 29) (.tmp 39) 22 (by rfl) encV_len (by omega) encV_one i0 _ 16 Try.underlying22 HI.out.1 HI.out.2.1 HI.out.2.2.1 HI.out.2.2.2 rfl (l := L) (A := A3) (c := c3) (base := w.heap.size) (by rw [HP.out.2.2]; rfl) (HP.out.1.of (by (repeat (first | (with_reducible exact SinceOf.refl _) | (with_reducible assumption) | (with_reducible refine SinceOf.alloc ?_ _) | (with_reducible refine SinceOf.drew ?_) | (with_reducible refine SinceOf.drewN ?_ _) | (with_reducible refine SinceOf.later ?_ _) | (with_reducible refine SinceOf.further ?_ _) | (with_reducible refine SinceOf.setCell ?_ (by first | exact Nat.le_refl _ | (simp; done) | omega | (simp; omega)) _))))) (m := [(sx, sy)]) (by rfl) (isRow_atV _ _ _ _ (by first | rfl | simp)) (by rw [HP.out.2.2]; unfold maxLen; simp; omega) (by rw [HP.out.2.2]; simp; omega) (by have := z1.size; have := v.size; simp at *; omega) ?_; intro A4 c4 w4 ho4 hgr4 hb4))
          all_goals
            go_wp2_with fail
            go_roundg (s.length - (j + 1))
            case measure => omega
            case rel =>
              refine ⟨j + 1, A4, c4, n3 + 1, hlt2, Nat.le_refl _, by rw [HN3.out, Nat.add_assoc], (by rw [HP.out.2.2]; try rfl), by go_num, ?_, SinceOf.grown (by (repeat (first | (with_reducible exact SinceOf.refl _) | (with_reducible assumption) | (with_reducible refine SinceOf.alloc ?_ _) | (with_reducible refine SinceOf.drew ?_) | (with_reducible refine SinceOf.drewN ?_ _) | (with_reducible refine SinceOf.later ?_ _) | (with_reducible refine SinceOf.further ?_ _) | (with_reducible refine SinceOf.setCell ?_ (by first | exact Nat.le_refl _ | (simp; done) | omega | (simp; omega)) _)))) hgr4 (fun q hq => (HP.out.1.below q hq).1)⟩
              rw [HP.out.2.1]
              exact ho4
        · obtain rfl : j = s.length := by omega
          have HP := Lib.hid (show OwnVecs w.heap.size v.wd A3 c3 (sums2 (r.take (i + 1)) s) by rw [HT.out.2.1]; rw [List.take_length] at ho3; exact ho3)
          clear ho3
          go_wp2_with fail
          go_roundg (r.length - (i + 1))
          case measure => omega
          case rel => exact ⟨i + 1, A3, c3, n3, hlt, Nat.le_refl _, by rw [HT.out.2.2.2, hn3], rfl, by go_num, HP.out, by (repeat (first | (with_reducible exact SinceOf.refl _) | (with_reducible assumption) | (with_reducible refine SinceOf.alloc ?_ _) | (with_reducible refine SinceOf.drew ?_) | (with_reducible refine SinceOf.drewN ?_ _) | (with_reducible refine SinceOf.later ?_ _) | (with_reducible refine SinceOf.further ?_ _) | (with_reducible refine SinceOf.setCell ?_ (by first | exact Nat.le_refl _ | (simp; done) | omega | (simp; omega)) _)))⟩
    · obtain rfl : i = r.length := by omega
      rw [List.take_length] at ho
      have hsl : (sums2 r s).length = n2 := by rw [sums2_len, hn2]
      have hil : r.length * s.length ≤ 160 * 160 := Nat.mul_le_mul (by omega) s160
      have HN := fun W (hW : SinceOf z.wd W) => hull15_any A2 c2 (sums2 r s) W ((ho.isRow encV_len).of hW) (sums2_near HC.out.1 HC.out.2.1) (by rw [sums2_len]; omega) HC.out.2.2.2
      rw [hsl] at HN
      obtain ⟨U, hU⟩ : ∃ U, U = hull15V (sums2 r s) := ⟨_, rfl⟩
      rw [← hU] at HN hu160
      have HU := Lib.hid hU
      clear ho hn2 hsl hil hU
      go_wp2_with fail
      refine (HN _ (by (repeat (first | (with_reducible exact SinceOf.refl _) | (with_reducible assumption) | (with_reducible refine SinceOf.alloc ?_ _) | (with_reducible refine SinceOf.drew ?_) | (with_reducible refine SinceOf.drewN ?_ _) | (with_reducible refine SinceOf.later ?_ _) | (with_reducible refine SinceOf.further ?_ _) | (with_reducible refine SinceOf.setCell ?_ (by first | exact Nat.le_refl _ | (simp; done) | omega | (simp; omega)) _))))).mono ?_
      rintro e _ ⟨A6, c6, rfl, ho6, ⟨x6, rfl⟩⟩
      have CK := fun W (hW : SinceOf x6.wd W) => checked_any A6 c6 U W ((ho6.isRow encV_len).of hW) ho6.le_cap hu160
      have HB6 := Lib.hid (fun b hb => (ho6.below b hb).1)
      clear HN ho6
      go_wp2_with fail
      refine (CK _ (by (repeat (first | (with_reducible exact SinceOf.refl _) | (with_reducible assumption) | (with_reducible refine SinceOf.alloc ?_ _) | (with_reducible refine SinceOf.drew ?_) | (with_reducible refine SinceOf.drewN ?_ _) | (with_reducible refine SinceOf.later ?_ _) | (with_reducible refine SinceOf.further ?_ _) | (with_reducible refine SinceOf.setCell ?_ (by first | exact Nat.le_refl _ | (simp; done) | omega | (simp; omega)) _))))).mono ?_
      rintro e _ ⟨A7, c7, rfl, hv7, hc7, ha7, ⟨x7, rfl⟩⟩
      have HP := Lib.hid (And.intro hv7 (And.intro hc7 ha7))
      clear hv7 hc7 ha7 CK
      go_wp2_with fail
      go_returns
      exact ⟨A7, c7, checkedV U, rfl, by rw [HU.out]; exact HC.out.2.2.1, HP.out.1, HP.out.2.1, fun b hb => by
        rcases HP.out.2.2 with q | q
        · rw [q] at hb; cases hb
        · rw [q] at hb
          have := HB6.out b hb
          have := x1.size; have := x2.size; have := z.size
          omega, by (repeat (first | (with_reducible exact SinceOf.refl _) | (with_reducible assumption) | (with_reducible refine SinceOf.alloc ?_ _) | (with_reducible refine SinceOf.drew ?_) | (with_reducible refine SinceOf.drewN ?_ _) | (with_reducible refine SinceOf.later ?_ _) | (with_reducible refine SinceOf.further ?_ _) | (with_reducible refine SinceOf.setCell ?_ (by first | exact Nat.le_refl _ | (simp; done) | omega | (simp; omega)) _)))⟩
set_option maxRecDepth 100000 in
set_option maxHeartbeats 4000000 in
theorem sum_any (A B : Option Addr) (c d : Nat) (r s : List (Int × Int)) (w : World) (h : IsVecs w A c r) (h2 : IsVecs w B d s) (hc : r.length ≤ c) (hd : s.length ≤ d) (hn1 : r.length < 4611686018427387904) (hn2 : s.length < 4611686018427387904) :
    Calls Try.prog 15 #[.slice A r.length c, .slice B s.length d] w fun e w' => ∃ A' c' out, e = .returned (.tuple #[.slice A' out.1.length c', .int .i64 out.2]) ∧ SumV r s out ∧ IsVecs w' A' c' out.1 ∧ out.1.length ≤ c' ∧ (∀ b, blockOf A' = some b → w.heap.size ≤ b) ∧ SinceOf w w' := by
  have VR := fun W (hW : SinceOf w W) => valid_any A c r W (h.of hW) hn1
  have VS := fun W (hW : SinceOf w W) => valid_any B d s W (h2.of hW) hn2
  cases hr : validB r
  · rw [hr] at VR
    have HV := Lib.hid hr
    clear hr h h2
    go_enter Try.func15, Try.ntmps15
    go_wp2_with fail
    refine (VR _ (by (repeat (first | (with_reducible exact SinceOf.refl _) | (with_reducible assumption) | (with_reducible refine SinceOf.alloc ?_ _) | (with_reducible refine SinceOf.drew ?_) | (with_reducible refine SinceOf.drewN ?_ _) | (with_reducible refine SinceOf.later ?_ _) | (with_reducible refine SinceOf.further ?_ _) | (with_reducible refine SinceOf.setCell ?_ (by first | exact Nat.le_refl _ | (simp; done) | omega | (simp; omega)) _))))).calls.mono ?_
    rintro e _ ⟨rfl, x1, rfl⟩
    go_wp2_with fail
    go_returns
    exact ⟨none, 0, ([], 11), rfl, SumV.no1 HV.out, IsRow.nil _ _ _, Nat.le_refl _, (fun b hb => by cases hb), by (repeat (first | (with_reducible exact SinceOf.refl _) | (with_reducible assumption) | (with_reducible refine SinceOf.alloc ?_ _) | (with_reducible refine SinceOf.drew ?_) | (with_reducible refine SinceOf.drewN ?_ _) | (with_reducible refine SinceOf.later ?_ _) | (with_reducible refine SinceOf.further ?_ _) | (with_reducible refine SinceOf.setCell ?_ (by first | exact Nat.le_refl _ | (simp; done) | omega | (simp; omega)) _)))⟩
  cases hs : validB s
  · rw [hr] at VR
    rw [hs] at VS
    have HV := Lib.hid hs
    clear hr hs h h2
    go_enter Try.func15, Try.ntmps15
    go_wp2_with fail
    refine (VR _ (by (repeat (first | (with_reducible exact SinceOf.refl _) | (with_reducible assumption) | (with_reducible refine SinceOf.alloc ?_ _) | (with_reducible refine SinceOf.drew ?_) | (with_reducible refine SinceOf.drewN ?_ _) | (with_reducible refine SinceOf.later ?_ _) | (with_reducible refine SinceOf.further ?_ _) | (with_reducible refine SinceOf.setCell ?_ (by first | exact Nat.le_refl _ | (simp; done) | omega | (simp; omega)) _))))).calls.mono ?_
    rintro e _ ⟨rfl, x1, rfl⟩
    go_wp2_with fail
    refine (VS _ (by (repeat (first | (with_reducible exact SinceOf.refl _) | (with_reducible assumption) | (with_reducible refine SinceOf.alloc ?_ _) | (with_reducible refine SinceOf.drew ?_) | (with_reducible refine SinceOf.drewN ?_ _) | (with_reducible refine SinceOf.later ?_ _) | (with_reducible refine SinceOf.further ?_ _) | (with_reducible refine SinceOf.setCell ?_ (by first | exact Nat.le_refl _ | (simp; done) | omega | (simp; omega)) _))))).calls.mono ?_
    rintro e _ ⟨rfl, x2, rfl⟩
    go_wp2_with fail
    go_returns
    exact ⟨none, 0, ([], 11), rfl, SumV.no2 HV.out, IsRow.nil _ _ _, Nat.le_refl _, (fun b hb => by cases hb), by (repeat (first | (with_reducible exact SinceOf.refl _) | (with_reducible assumption) | (with_reducible refine SinceOf.alloc ?_ _) | (with_reducible refine SinceOf.drew ?_) | (with_reducible refine SinceOf.drewN ?_ _) | (with_reducible refine SinceOf.later ?_ _) | (with_reducible refine SinceOf.further ?_ _) | (with_reducible refine SinceOf.setCell ?_ (by first | exact Nat.le_refl _ | (simp; done) | omega | (simp; omega)) _)))⟩
  have hcr := validB_iff.1 hr
  have hcs := validB_iff.1 hs
  refine (sum_walk sortsAll A B c d r s w h h2 hc hd hr hs (by have := hcr.2.1; have := hcs.2.1; omega)).mono ?_
  rintro e w' ⟨A', c', out, he, hres, hv, hcap, hf, hsi⟩
  exact ⟨A', c', out, he, (SumV.yes hr hs).2 (sum_is hcr hcs hres), hv, hcap, hf, hsi⟩
end Go.Proofs.Ytbienlhofkfdpaa
