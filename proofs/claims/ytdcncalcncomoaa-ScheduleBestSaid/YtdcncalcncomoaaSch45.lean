/- Layer 52 (the reference): Candidates. -/
import Derived.Test.YtdcncalcncomoaaSch43
import Derived.Deep.RegionLaw
import Derived.Deep.CutBlock
namespace Go.Proofs.Ytdcncalcncomoaa
open Go.RowKit Go.Sort
set_option linter.unusedVariables false
attribute [local go_sem ↓] Go.wp_at_zero Go.wp_at_succ

def posU (t : Int) (out : List Int) : Nat := (out.takeWhile (fun y => decide (y < t))).length
theorem posU_le (t : Int) (out : List Int) : posU t out ≤ out.length := by unfold posU; exact (List.takeWhile_sublist _).length_le
theorem posU_is (t : Int) (out : List Int) (k : Nat) (hk : k ≤ out.length) (h : ∀ j (hj : j < k), out[j] < t) (hs : ∀ (hlt : k < out.length), ¬ out[k] < t) : posU t out = k := by
  unfold posU
  induction out generalizing k with
  | nil => simp at hk; simp [hk]
  | cons y out ih =>
    cases k with
    | zero =>
      have := hs (by simp)
      simp only [List.getElem_cons_zero] at this
      simp [this]
    | succ k =>
      have h0 := h 0 (by omega)
      simp only [List.getElem_cons_zero] at h0
      rw [List.takeWhile_cons, if_pos (by simpa using h0), List.length_cons, ih k (by simpa using hk) (fun j hj => by simpa using h (j + 1) (by omega)) (fun hlt => hs (Nat.succ_lt_succ hlt))]
theorem insU_pos (t : Int) : ∀ out : List Int, insU t out = if out[posU t out]? = some t then out else out.take (posU t out) ++ t :: out.drop (posU t out)
  | [] => by simp [insU, posU]
  | y :: r => by
    have ih := insU_pos t r
    unfold insU
    by_cases h : y < t
    · rw [if_pos h, ih, show posU t (y :: r) = posU t r + 1 from by simp [posU, h]]
      simp only [List.getElem?_cons_succ, List.take_succ_cons, List.drop_succ_cons]
      split <;> simp
    · rw [if_neg h, show posU t (y :: r) = 0 from by simp [posU, h]]
      simp
theorem insU_length (t : Int) : ∀ out : List Int, (insU t out).length ≤ out.length + 1
  | [] => by simp [insU]
  | y :: r => by
    have := insU_length t r
    unfold insU
    split
    · simp; omega
    · split <;> simp
def candTo (s : ShopR) (m : Int) (ts : List Int) (k : Nat) : List Int := (ts.take k).foldl (candStep s m) []
theorem candTo_succ (s : ShopR) (m : Int) (ts : List Int) (k : Nat) (h : k < ts.length) : candTo s m ts (k + 1) = candStep s m (candTo s m ts k) ts[k] := by
  unfold candTo; rw [List.take_succ_eq_append_getElem h, List.foldl_append]; rfl
theorem candTo_length (s : ShopR) (m : Int) (ts : List Int) : ∀ k, k ≤ ts.length → (candTo s m ts k).length ≤ k
  | 0, _ => by simp [candTo]
  | k + 1, hk => by
    rw [candTo_succ s m ts k hk]
    have := candTo_length s m ts k (by omega)
    unfold candStep
    split
    · have := insU_length (nextAt s m ts[k]).1 (candTo s m ts k); omega
    · omega
theorem endsOf_le (b : Int) (l : List SlotR) : (endsOf b l).length ≤ l.length := by
  unfold endsOf; rw [List.length_map]; exact List.length_filter_le _ _
theorem ownsN_empty (W : World) (b : Nat) (hb : b ≤ W.heap.size) : Owns encN 1 b 3 (W.alloc (.cells #[] 3)) (some ⟨W.heap.size, 0, none⟩) 0 [] :=
  World.ownsRow_lit (base := b) (e := 3) (size := 1) W #[] 0 hb (Nat.zero_le _) rfl
theorem rowN_one (W : World) (x : Int) : RowAt encN 1 (W.alloc (.cells #[.int .i64 x] 3)) W.heap.size 0 [x] := by
  refine ⟨fun i hi j u hu => ?_, inferInstance⟩
  obtain rfl : i = 0 := by simpa using hi
  match j, hu with
  | 0, hu => simp [encN] at hu; subst hu; simp
  | j + 1, hu => simp [encN] at hu
def hasU (out : List Int) (p : Nat) (t : Int) : Bool := decide (out[p]? = some t)
set_option maxRecDepth 100000 in
set_option maxHeartbeats 16000000 in
theorem refCand_any (s : ShopR) (A : Option Addr) (c : Nat) (L : List JobR) (B : Option Addr) (d : Nat) (l : List SlotR) (jb m : Nat) (w : World) (hs : IsShop w s) (h : IsJobs w A c L) (gp : GoodP s L) (hl : IsSlots w B d l) (hll : l.length < 1073741824) (hn : NamedS s L l) (hjb : jb < L.length) (hm : m < s.cals.length) :
    Calls Try.prog 14 #[shopV s, .slice A L.length c, .slice B l.length d, .int .i64 jb, .int .i64 m] w fun e w' => ∃ A' c', e = .returned (.slice A' (candV s L l jb m).length c') ∧ IsInts w' A' c' (candV s L l jb m) ∧ SinceOf w w' := by
  have hcl := hs.cals.len
  have hrl := hs.rows.len
  have hjl := h.len
  have hka := hs.cals.all _ (List.getElem_mem hm)
  have NX := fun t W hW => refNext_any (w := W) t (hka.of hW)
  have en : ∀ t, nextAt s m t = nextV s.cals[m].P s.cals[m].S s.cals[m].D t := fun t => by unfold nextAt; rw [calAt_at hm]
  obtain ⟨gc, oc, hAc, hrc⟩ := hs.cals.row.at_ (by omega)
  obtain ⟨gj, oj, hAj, hrj⟩ := h.row.at_ (by omega)
  have hOc := hrc.there
  have hOj := hrj.there
  have c0 := hrc.k0 m hm
  have c1 := hrc.k1 m hm
  have c2 := hrc.k2 m hm
  have i2 := hrj.j2 jb hjb
  have i3 := hrj.j3 jb hjb
  obtain ⟨cb0, cb1⟩ := gp.cls _ (List.getElem_mem hjb)
  obtain ⟨q, hq⟩ : ∃ q : Nat, L[jb].cls = q := ⟨L[jb].cls.toNat, by omega⟩
  have hq' : q < s.rows.length := by omega
  rw [hq] at i2
  have RD := fun (x : SlotR) (hx : nameB s L x = true) W (hW : SinceOf w W) => refReady_any s A c L x q W (hs.of hW) (h.of hW) gp (nameB_iff.1 hx).2 (nameB_iff.1 hx).1 hq'
  have eset : ∀ a, setupAt s L a jb = get2 s.rows (jobAt L a).cls.toNat q := fun a => by unfold setupAt; rw [jobAt_at hjb, hq]; rfl
  have erel : (jobAt L jb).rel = L[jb].rel := by rw [jobAt_at hjb]
  obtain ⟨res, hres⟩ : ∃ v, v = candV s L l jb m := ⟨_, rfl⟩
  rw [← hres]
  unfold candV at hres
  rw [erel] at hres
  generalize L[jb].rel = rel at *
  obtain ⟨bv, hbv⟩ : ∃ v, v = beginV s L jb m rel l := ⟨_, rfl⟩
  rw [← hbv] at hres
  obtain ⟨i0, hi, hz0, hz1, hz2⟩ := info_parts infoInt
  have HI := Lib.hid (And.intro hi (And.intro hz0 (And.intro hz1 hz2)))
  obtain ⟨sA, sc, cals, sB, sd, R, most⟩ := s
  simp only at *
  subst hAc hAj
  have H := Lib.hid (And.intro hl (And.intro hn (And.intro hres (And.intro hbv (And.intro eset (And.intro en (And.intro RD NX)))))))
  generalize cals[m] = K at *
  clear hs h gp hl hn hres hbv hrj hrc hq en eset erel hka cb0 cb1 RD NX hi hz0 hz1 hz2
  go_enter Try.func14, Try.ntmps14
  go_wp2_with fail
  go_loopg [11, 12] l.length (fun gas s11 s12 wr => ∃ (k : Nat) (b : Int), k ≤ l.length ∧ l.length - k ≤ gas ∧ s11 = .int .i64 b ∧ s12 = .int .i64 k ∧ LaterOf (w.alloc (.cells #[.slice (some ⟨gc, oc, none⟩) cals.length sc, .slice sB R.length sd, .int .i64 most] 25)) wr ∧ bv = beginV ⟨some ⟨gc, oc, none⟩, sc, cals, sB, sd, R, most⟩ L jb m b (l.drop k))
  case atStart => exact ⟨0, rel, by omega, by omega, rfl, rfl, by (repeat (first | (with_reducible exact LaterOf.refl _) | (with_reducible refine LaterOf.alloc ?_ _) | (with_reducible refine LaterOf.drew ?_) | (with_reducible refine LaterOf.drewN ?_ _) | (with_reducible refine LaterOf.later ?_ _) | (with_reducible refine LaterOf.setCell ?_ (by first | exact Nat.le_refl _ | (simp; done) | omega | (simp; omega)) _))), by rw [List.drop_zero]; exact H.out.2.2.2.1⟩
  case round =>
    obtain ⟨k, b, hk, hgas, rfl, rfl, ⟨z, rfl⟩, hb⟩ := hrel
    by_cases hlt : k < l.length
    · rw [beginV_drop _ _ _ _ _ hlt] at hb
      have hrl' := H.out.1.of (w' := z.wd) (by (repeat (first | (with_reducible exact SinceOf.refl _) | (with_reducible assumption) | (with_reducible refine SinceOf.alloc ?_ _) | (with_reducible refine SinceOf.drew ?_) | (with_reducible refine SinceOf.drewN ?_ _) | (with_reducible refine SinceOf.later ?_ _) | (with_reducible refine SinceOf.further ?_ _) | (with_reducible refine SinceOf.setCell ?_ (by first | exact Nat.le_refl _ | (simp; done) | omega | (simp; omega)) _))))
      obtain ⟨gs, os, rfl, hrs⟩ := hrl'.at_ (by omega)
      have hOs := hrs.there
      have s0 := hrs.s0 k hlt
      have s1 := hrs.s1 k hlt
      have s2 := hrs.s2 k hlt
      have s3 := hrs.s3 k hlt
      have RK := H.out.2.2.2.2.2.2.1 l[k] (H.out.2.1 _ (List.getElem_mem hlt))
      rw [← H.out.2.2.2.2.1] at RK
      generalize l[k] = y at *
      obtain ⟨yj, ym, ys, ye⟩ := y
      simp only at s0 s1 s2 s3 hb RK
      clear hrs hrl'
      by_cases hmm : ym = (m : Int)
      · rw [if_pos hmm] at hb
        subst hmm
        generalize finishAt ⟨some ⟨gc, oc, none⟩, sc, cals, sB, sd, R, most⟩ m ye (setupAt ⟨some ⟨gc, oc, none⟩, sc, cals, sB, sd, R, most⟩ L yj jb) = fv at *
        obtain ⟨fe, fr⟩ := fv
        simp only at hb RK
        by_cases h0 : fr = 0
        · subst h0
          rw [if_pos rfl] at hb
          simp only [beq_self_eq_true] at RK
          have HB := Lib.hid hb
          clear hb
          go_wp2_with fail
          refine region_later (by kernel_rfl) (by kernel_rfl) ?_
          repeat (go_big_quiet_step ((with_reducible refine Gives.later (RK _ (by (repeat (first | (with_reducible exact SinceOf.refl _) | (with_reducible assumption) | (with_reducible refine SinceOf.alloc ?_ _) | (with_reducible refine SinceOf.drew ?_) | (with_reducible refine SinceOf.drewN ?_ _) | (with_reducible refine SinceOf.later ?_ _) | (with_reducible refine SinceOf.further ?_ _) | (with_reducible refine SinceOf.setCell ?_ (by first | exact Nat.le_refl _ | (simp; done) | omega | (simp; omega)) _))))))))
          refine wpQuiet_nil ?_
          rintro _ ⟨z2, rfl⟩
          go_wp2_with fail
          go_roundg (l.length - (k + 1))
          case measure => omega
          case rel => exact ⟨k + 1, imax b fe, hlt, Nat.le_refl _, rfl, by go_num, by (repeat (first | (with_reducible exact LaterOf.refl _) | (with_reducible refine LaterOf.alloc ?_ _) | (with_reducible refine LaterOf.drew ?_) | (with_reducible refine LaterOf.drewN ?_ _) | (with_reducible refine LaterOf.later ?_ _) | (with_reducible refine LaterOf.setCell ?_ (by first | exact Nat.le_refl _ | (simp; done) | omega | (simp; omega)) _))), HB.out⟩
        · rw [if_neg h0] at hb
          have h0' : (fr == 0) = false := by simpa using h0
          rw [h0'] at RK
          have hr0 : res = [] := by rw [H.out.2.2.1, hb]
          have HB := Lib.hid hr0
          clear hb h0 hr0 h0'
          go_wp2_with fail
          refine region_later (by kernel_rfl) (by kernel_rfl) ?_
          repeat (go_big_quiet_step ((with_reducible refine Gives.later (RK _ (by (repeat (first | (with_reducible exact SinceOf.refl _) | (with_reducible assumption) | (with_reducible refine SinceOf.alloc ?_ _) | (with_reducible refine SinceOf.drew ?_) | (with_reducible refine SinceOf.drewN ?_ _) | (with_reducible refine SinceOf.later ?_ _) | (with_reducible refine SinceOf.further ?_ _) | (with_reducible refine SinceOf.setCell ?_ (by first | exact Nat.le_refl _ | (simp; done) | omega | (simp; omega)) _))))))))
          refine wpQuiet_nil ?_
          rintro _ ⟨z2, rfl⟩
          go_wp2_with fail
          go_returns
          refine ⟨none, 0, ?_, ?_, by (repeat (first | (with_reducible exact SinceOf.refl _) | (with_reducible assumption) | (with_reducible refine SinceOf.alloc ?_ _) | (with_reducible refine SinceOf.drew ?_) | (with_reducible refine SinceOf.drewN ?_ _) | (with_reducible refine SinceOf.later ?_ _) | (with_reducible refine SinceOf.further ?_ _) | (with_reducible refine SinceOf.setCell ?_ (by first | exact Nat.le_refl _ | (simp; done) | omega | (simp; omega)) _)))⟩
          · rw [HB.out]; rfl
          · rw [HB.out]; exact IsRow.nil _ _ _
      · rw [if_neg hmm] at hb
        have h0' : (ym != (m : Int)) = true := by simpa using hmm
        have HB := Lib.hid hb
        clear hb hmm RK
        go_wp2_with fail
        go_roundg (l.length - (k + 1))
        case measure => omega
        case rel => exact ⟨k + 1, b, hlt, Nat.le_refl _, rfl, by go_num, by (repeat (first | (with_reducible exact LaterOf.refl _) | (with_reducible refine LaterOf.alloc ?_ _) | (with_reducible refine LaterOf.drew ?_) | (with_reducible refine LaterOf.drewN ?_ _) | (with_reducible refine LaterOf.later ?_ _) | (with_reducible refine LaterOf.setCell ?_ (by first | exact Nat.le_refl _ | (simp; done) | omega | (simp; omega)) _))), HB.out⟩
    · have hkl : k = l.length := by omega
      rw [hkl, List.drop_length] at hb
      have hb2 : res = candL ⟨some ⟨gc, oc, none⟩, sc, cals, sB, sd, R, most⟩ m (b :: endsOf b l) := by rw [H.out.2.2.1, hb]; rfl
      have HB := Lib.hid hb2
      clear hb hkl hb2 i2 i3
      go_wp2_with fail
      go_loopg [15, 16] l.length (fun gas s15 s16 wr => ∃ (k : Nat) (A1 : Option Addr) (c1 : Nat), k ≤ l.length ∧ l.length - k ≤ gas ∧ s15 = .slice A1 (b :: endsOf b (l.take k)).length c1 ∧ s16 = .int .i64 k ∧ Owns encN 1 z.wd.heap.size 3 wr A1 c1 (b :: endsOf b (l.take k)) ∧ SinceOf z.wd wr)
      case atStart => exact ⟨0, _, 1, by omega, by omega, rfl, rfl, World.ownsRow_lit z.wd _ 1 (Nat.le_refl _) (by decide) rfl, by (repeat (first | (with_reducible exact SinceOf.refl _) | (with_reducible assumption) | (with_reducible refine SinceOf.alloc ?_ _) | (with_reducible refine SinceOf.drew ?_) | (with_reducible refine SinceOf.drewN ?_ _) | (with_reducible refine SinceOf.later ?_ _) | (with_reducible refine SinceOf.further ?_ _) | (with_reducible refine SinceOf.setCell ?_ (by first | exact Nat.le_refl _ | (simp; done) | omega | (simp; omega)) _)))⟩
      case round =>
        obtain ⟨i, A1, c1, hi, hgas2, rfl, rfl, hown, ⟨z2, rfl⟩⟩ := hrel
        have hel := endsOf_le b (l.take i)
        rw [List.length_take] at hel
        by_cases hlti : i < l.length
        · have hsn := endsOf_snoc b hlti
          have hrl' := H.out.1.of (w' := z2.wd) (by (repeat (first | (with_reducible exact SinceOf.refl _) | (with_reducible assumption) | (with_reducible refine SinceOf.alloc ?_ _) | (with_reducible refine SinceOf.drew ?_) | (with_reducible refine SinceOf.drewN ?_ _) | (with_reducible refine SinceOf.later ?_ _) | (with_reducible refine SinceOf.further ?_ _) | (with_reducible refine SinceOf.setCell ?_ (by first | exact Nat.le_refl _ | (simp; done) | omega | (simp; omega)) _))))
          obtain ⟨gs, os, rfl, hrs⟩ := hrl'.at_ (by omega)
          have hOs := hrs.there
          have s3 := hrs.s3 i hlti
          generalize l[i].stop = ye at *
          generalize endsOf b (l.take i) = es at *
          have HO := Lib.hid (And.intro hown hsn)
          clear hrs hrl' hown hsn
          by_cases hby : b < ye
          · have hd : decide (b < ye) = true := by simpa using hby
            have hsz := z2.size
            go_wp2_with (at_builtin; refine wpList_append_row rfl (.tmp 75) (.tmp 81) 51 rfl encN_len (by omega) encN_one i0 _ 8 Try.underlying51 HI.out.1 HI.out.2.1 HI.out.2.2.1 HI.out.2.2.2 rfl (l := b :: es) (A := A1) (c := c1) (base := z.wd.heap.size) rfl (HO.out.1.of (by (repeat (first | (with_reducible exact SinceOf.refl _) | (with_reducible assumption) | (with_reducible refine SinceOf.alloc ?_ _) | (with_reducible refine SinceOf.drew ?_) | (with_reducible refine SinceOf.drewN ?_ _) | (with_reducible refine SinceOf.later ?_ _) | (with_reducible refine SinceOf.further ?_ _) | (with_reducible refine SinceOf.setCell ?_ (by first | exact Nat.le_refl _ | (simp; done) | omega | (simp; omega)) _))))) (m := [ye]) rfl (rowN_at _ _ _ _ (by first | rfl | simp)) (by unfold maxLen; simp; omega) (by simp; omega) (by simp; omega) ?_; intro E3 f3 w3 hown3 hgr3 hbl3)
            go_roundg (l.length - (i + 1))
            case measure => omega
            case rel =>
              have he : endsOf b (l.take (i + 1)) = es ++ [ye] := by rw [HO.out.2, if_pos hby]
              refine ⟨i + 1, E3, f3, hlti, Nat.le_refl _, ?_, by go_num, ?_, ?_⟩
              · rw [he]; (try simp); (try rfl)
              · rw [he]; exact hown3
              · refine SinceOf.grown (by (repeat (first | (with_reducible exact SinceOf.refl _) | (with_reducible assumption) | (with_reducible refine SinceOf.alloc ?_ _) | (with_reducible refine SinceOf.drew ?_) | (with_reducible refine SinceOf.drewN ?_ _) | (with_reducible refine SinceOf.later ?_ _) | (with_reducible refine SinceOf.further ?_ _) | (with_reducible refine SinceOf.setCell ?_ (by first | exact Nat.le_refl _ | (simp; done) | omega | (simp; omega)) _)))) hgr3 ?_
                intro q hq
                exact (HO.out.1.below q hq).1
          · have hd : decide (b < ye) = false := by simpa using hby
            go_wp2_with fail
            go_roundg (l.length - (i + 1))
            case measure => omega
            case rel =>
              have he : endsOf b (l.take (i + 1)) = es := by rw [HO.out.2, if_neg (by omega), List.append_nil]
              refine ⟨i + 1, A1, c1, hlti, Nat.le_refl _, ?_, by go_num, ?_, by (repeat (first | (with_reducible exact SinceOf.refl _) | (with_reducible assumption) | (with_reducible refine SinceOf.alloc ?_ _) | (with_reducible refine SinceOf.drew ?_) | (with_reducible refine SinceOf.drewN ?_ _) | (with_reducible refine SinceOf.later ?_ _) | (with_reducible refine SinceOf.further ?_ _) | (with_reducible refine SinceOf.setCell ?_ (by first | exact Nat.le_refl _ | (simp; done) | omega | (simp; omega)) _)))⟩
              · rw [he]; rfl
              · rw [he]; exact HO.out.1
        · have hil : i = l.length := by omega
          rw [hil, List.take_length] at hown
          rw [hil, List.take_length]
          have hts : 0 < (b :: endsOf b l).length := by simp
          have htl : (b :: endsOf b l).length ≤ l.length + 1 := by have := endsOf_le b l; simp; omega
          generalize b :: endsOf b l = ts at *
          obtain ⟨gt, ot, rfl, hrt⟩ := (hown.isRow encN_len).at_ hts
          have hOt := hrt.there
          have HT := Lib.hid hrt
          clear hown hrt hil hel
          go_wp2_with fail
          go_loopg [17, 18] ts.length (fun gas s17 s18 wr => ∃ (k : Nat) (A1 : Option Addr) (c1 : Nat), k ≤ ts.length ∧ ts.length - k ≤ gas ∧ s17 = .slice A1 (candTo ⟨some ⟨gc, oc, none⟩, sc, cals, sB, sd, R, most⟩ m ts k).length c1 ∧ s18 = .int .i64 k ∧ Owns encN 1 z2.wd.heap.size 3 wr A1 c1 (candTo ⟨some ⟨gc, oc, none⟩, sc, cals, sB, sd, R, most⟩ m ts k) ∧ SinceOf z2.wd wr)
          case atStart => exact ⟨0, none, 0, by omega, by omega, rfl, rfl, Owns.nil _ _ _ _ _, by (repeat (first | (with_reducible exact SinceOf.refl _) | (with_reducible assumption) | (with_reducible refine SinceOf.alloc ?_ _) | (with_reducible refine SinceOf.drew ?_) | (with_reducible refine SinceOf.drewN ?_ _) | (with_reducible refine SinceOf.later ?_ _) | (with_reducible refine SinceOf.further ?_ _) | (with_reducible refine SinceOf.setCell ?_ (by first | exact Nat.le_refl _ | (simp; done) | omega | (simp; omega)) _)))⟩
          case round =>
            obtain ⟨n, A2, c2', hn, hgas3, rfl, rfl, hown, ⟨z3, rfl⟩⟩ := hrel
            by_cases hltn : n < ts.length
            · have hlen := candTo_length ⟨some ⟨gc, oc, none⟩, sc, cals, sB, sd, R, most⟩ m ts n hn
              have hsu := candTo_succ ⟨some ⟨gc, oc, none⟩, sc, cals, sB, sd, R, most⟩ m ts n hltn
              unfold candStep at hsu
              rw [H.out.2.2.2.2.2.1] at hsu
              have t0 := HT.out.n0 n hltn
              have NK := H.out.2.2.2.2.2.2.2 ts[n]
              generalize ts[n] = tn at *
              generalize candTo ⟨some ⟨gc, oc, none⟩, sc, cals, sB, sd, R, most⟩ m ts n = out at *
              simp only [pairV] at NK
              generalize nextV K.P K.S K.D tn = nv at *
              obtain ⟨t, te⟩ := nv
              simp only at hsu NK
              by_cases h0 : te = 0
              · subst h0
                rw [if_pos rfl] at hsu
                have hrow := hown.isRow encN_len
                have HO := Lib.hid (And.intro hown (And.intro hsu hrow))
                clear hown hsu hrow
                go_wp2_with fail
                refine region_later (by kernel_rfl) (by kernel_rfl) ?_
                repeat (go_big_quiet_step ((with_reducible refine Gives.later (NK _ (by (repeat (first | (with_reducible exact SinceOf.refl _) | (with_reducible assumption) | (with_reducible refine SinceOf.alloc ?_ _) | (with_reducible refine SinceOf.drew ?_) | (with_reducible refine SinceOf.drewN ?_ _) | (with_reducible refine SinceOf.later ?_ _) | (with_reducible refine SinceOf.further ?_ _) | (with_reducible refine SinceOf.setCell ?_ (by first | exact Nat.le_refl _ | (simp; done) | omega | (simp; omega)) _))))))))
                refine wpQuiet_nil ?_
                rintro _ ⟨z4, rfl⟩
                clear NK
                go_upto_block 6 with fail
                go_cut [21] (fun s21 wx => s21 = .int .i64 (posU t out) ∧ LaterOf z4.wd wx)
                case first =>
                  go_wp2_with fail
                  go_loopg [21] out.length (fun gas s21 wz => ∃ j : Nat, j ≤ out.length ∧ out.length - j ≤ gas ∧ s21 = .int .i64 j ∧ LaterOf z4.wd wz ∧ ∀ i (hi : i < j) (h2 : i < out.length), out[i] < t)
                  case atStart => exact ⟨0, by omega, by omega, rfl, by (repeat (first | (with_reducible exact LaterOf.refl _) | (with_reducible refine LaterOf.alloc ?_ _) | (with_reducible refine LaterOf.drew ?_) | (with_reducible refine LaterOf.drewN ?_ _) | (with_reducible refine LaterOf.later ?_ _) | (with_reducible refine LaterOf.setCell ?_ (by first | exact Nat.le_refl _ | (simp; done) | omega | (simp; omega)) _))), by intro i hi; omega⟩
                  case round =>
                    obtain ⟨j, hj, hg, rfl, ⟨z5, rfl⟩, hall⟩ := hrel
                    have HA := Lib.hid hall
                    clear hall
                    by_cases hjl : j < out.length
                    · obtain ⟨g, off, rfl, hr⟩ := (HO.out.2.2.of (w' := z5.wd) (by (repeat (first | (with_reducible exact SinceOf.refl _) | (with_reducible assumption) | (with_reducible refine SinceOf.alloc ?_ _) | (with_reducible refine SinceOf.drew ?_) | (with_reducible refine SinceOf.drewN ?_ _) | (with_reducible refine SinceOf.later ?_ _) | (with_reducible refine SinceOf.further ?_ _) | (with_reducible refine SinceOf.setCell ?_ (by first | exact Nat.le_refl _ | (simp; done) | omega | (simp; omega)) _))))).at_ (by omega)
                      have hO := hr.there
                      have o0 := hr.n0 j hjl
                      clear hr
                      obtain ⟨ov, hov⟩ : ∃ v, v = out[j] := ⟨_, rfl⟩
                      rw [← hov] at o0
                      have B := Lib.hid hov
                      clear hov
                      by_cases hless : ov < t
                      · have hd : decide (ov < t) = true := by simpa using hless
                        have HL := Lib.hid hless
                        clear hless
                        go_wp2_with fail
                        go_roundg (out.length - (j + 1))
                        case measure => omega
                        case rel =>
                          refine ⟨j + 1, hjl, Nat.le_refl _, by go_num, by (repeat (first | (with_reducible exact LaterOf.refl _) | (with_reducible refine LaterOf.alloc ?_ _) | (with_reducible refine LaterOf.drew ?_) | (with_reducible refine LaterOf.drewN ?_ _) | (with_reducible refine LaterOf.later ?_ _) | (with_reducible refine LaterOf.setCell ?_ (by first | exact Nat.le_refl _ | (simp; done) | omega | (simp; omega)) _))), ?_⟩
                          intro i hi h2
                          by_cases e : i = j
                          · subst e; rw [← B.out]; exact HL.out
                          · exact HA.out i (by omega) h2
                      · have hd : decide (ov < t) = false := by simpa using hless
                        have hp : posU t out = j := posU_is _ _ _ hj (fun i hi => HA.out i hi (by omega)) (fun _ => by rw [← B.out]; exact hless)
                        have HP := Lib.hid hp
                        clear hp hless
                        go_wp2_with fail
                        go_meet
                        rw [HP.out]
                        exact ⟨rfl, by (repeat (first | (with_reducible exact LaterOf.refl _) | (with_reducible refine LaterOf.alloc ?_ _) | (with_reducible refine LaterOf.drew ?_) | (with_reducible refine LaterOf.drewN ?_ _) | (with_reducible refine LaterOf.later ?_ _) | (with_reducible refine LaterOf.setCell ?_ (by first | exact Nat.le_refl _ | (simp; done) | omega | (simp; omega)) _)))⟩
                    · have hj2 : j = out.length := by omega
                      have hp : posU t out = j := posU_is _ _ _ hj (fun i hi => HA.out i hi (by omega)) (fun h => absurd h hjl)
                      have HP := Lib.hid hp
                      clear hp
                      go_wp2_with fail
                      go_meet
                      rw [HP.out]
                      exact ⟨rfl, by (repeat (first | (with_reducible exact LaterOf.refl _) | (with_reducible refine LaterOf.alloc ?_ _) | (with_reducible refine LaterOf.drew ?_) | (with_reducible refine LaterOf.drewN ?_ _) | (with_reducible refine LaterOf.later ?_ _) | (with_reducible refine LaterOf.setCell ?_ (by first | exact Nat.le_refl _ | (simp; done) | omega | (simp; omega)) _)))⟩
                case rest =>
                  obtain ⟨rfl, ⟨z5, rfl⟩⟩ := hcut
                  have hple := posU_le t out
                  have HP := Lib.hid (insU_pos t out)
                  generalize posU t out = p at *
                  go_upto_region 25 with fail
                  go_cut [129] (fun s129 wx => s129 = .bool (!(hasU out p t)) ∧ LaterOf z5.wd wx)
                  case first =>
                    by_cases hjl : p < out.length
                    · obtain ⟨g, off, rfl, hr⟩ := (HO.out.2.2.of (w' := z5.wd) (by (repeat (first | (with_reducible exact SinceOf.refl _) | (with_reducible assumption) | (with_reducible refine SinceOf.alloc ?_ _) | (with_reducible refine SinceOf.drew ?_) | (with_reducible refine SinceOf.drewN ?_ _) | (with_reducible refine SinceOf.later ?_ _) | (with_reducible refine SinceOf.further ?_ _) | (with_reducible refine SinceOf.setCell ?_ (by first | exact Nat.le_refl _ | (simp; done) | omega | (simp; omega)) _))))).at_ (by omega)
                      have hO := hr.there
                      have o0 := hr.n0 p hjl
                      clear hr
                      have hd : hasU out p t = (out[p] == t) := by
                        unfold hasU
                        rw [List.getElem?_eq_getElem hjl, Bool.eq_iff_iff]
                        simp
                      generalize out[p] = ov at *
                      have B := Lib.hid hd
                      clear hd
                      have e1 : ((p : Int) == (out.length : Int)) = false := by simp; omega
                      go_wp2_with fail
                      go_meet
                      rw [B.out]
                      exact ⟨by first | rfl | simp [bne], by (repeat (first | (with_reducible exact LaterOf.refl _) | (with_reducible refine LaterOf.alloc ?_ _) | (with_reducible refine LaterOf.drew ?_) | (with_reducible refine LaterOf.drewN ?_ _) | (with_reducible refine LaterOf.later ?_ _) | (with_reducible refine LaterOf.setCell ?_ (by first | exact Nat.le_refl _ | (simp; done) | omega | (simp; omega)) _)))⟩
                    · have hd : hasU out p t = false := by
                        unfold hasU
                        rw [decide_eq_false_iff_not, List.getElem?_eq_none (by omega)]; simp
                      have B := Lib.hid hd
                      clear hd
                      have e1 : ((p : Int) == (out.length : Int)) = true := by simp; omega
                      go_wp2_with fail
                      go_meet
                      rw [B.out]
                      exact ⟨by first | rfl | simp, by (repeat (first | (with_reducible exact LaterOf.refl _) | (with_reducible refine LaterOf.alloc ?_ _) | (with_reducible refine LaterOf.drew ?_) | (with_reducible refine LaterOf.drewN ?_ _) | (with_reducible refine LaterOf.later ?_ _) | (with_reducible refine LaterOf.setCell ?_ (by first | exact Nat.le_refl _ | (simp; done) | omega | (simp; omega)) _)))⟩
                  case rest =>
                    obtain ⟨hv, ⟨z6, rfl⟩⟩ := hcut
                    by_cases hd : out[p]? = some t
                    · have hdb : hasU out p t = true := decide_eq_true hd
                      rw [hdb] at hv
                      subst hv
                      have e : candTo ⟨some ⟨gc, oc, none⟩, sc, cals, sB, sd, R, most⟩ m ts (n + 1) = out := by rw [HO.out.2.1, HP.out, if_pos hd]
                      have E := Lib.hid e
                      clear hdb hd e
                      go_wp2_with fail
                      go_roundg (ts.length - (n + 1))
                      case measure => omega
                      case rel =>
                        refine ⟨n + 1, A2, c2', hltn, Nat.le_refl _, ?_, by go_num, ?_, by (repeat (first | (with_reducible exact SinceOf.refl _) | (with_reducible assumption) | (with_reducible refine SinceOf.alloc ?_ _) | (with_reducible refine SinceOf.drew ?_) | (with_reducible refine SinceOf.drewN ?_ _) | (with_reducible refine SinceOf.later ?_ _) | (with_reducible refine SinceOf.further ?_ _) | (with_reducible refine SinceOf.setCell ?_ (by first | exact Nat.le_refl _ | (simp; done) | omega | (simp; omega)) _)))⟩
                        · rw [E.out]
                        · rw [E.out]; exact HO.out.1.of (by (repeat (first | (with_reducible exact SinceOf.refl _) | (with_reducible assumption) | (with_reducible refine SinceOf.alloc ?_ _) | (with_reducible refine SinceOf.drew ?_) | (with_reducible refine SinceOf.drewN ?_ _) | (with_reducible refine SinceOf.later ?_ _) | (with_reducible refine SinceOf.further ?_ _) | (with_reducible refine SinceOf.setCell ?_ (by first | exact Nat.le_refl _ | (simp; done) | omega | (simp; omega)) _))))
                    · have hdb : hasU out p t = false := decide_eq_false hd
                      rw [hdb] at hv
                      subst hv
                      have e : candTo ⟨some ⟨gc, oc, none⟩, sc, cals, sB, sd, R, most⟩ m ts (n + 1) = out.take p ++ t :: out.drop p := by rw [HO.out.2.1, HP.out, if_neg hd]
                      have hcap := HO.out.1.le_cap
                      have E := Lib.hid e
                      have hs6 : SinceOf z2.wd z6.wd := by (repeat (first | (with_reducible exact SinceOf.refl _) | (with_reducible assumption) | (with_reducible refine SinceOf.alloc ?_ _) | (with_reducible refine SinceOf.drew ?_) | (with_reducible refine SinceOf.drewN ?_ _) | (with_reducible refine SinceOf.later ?_ _) | (with_reducible refine SinceOf.further ?_ _) | (with_reducible refine SinceOf.setCell ?_ (by first | exact Nat.le_refl _ | (simp; done) | omega | (simp; omega)) _)))
                      have hpc : p ≤ c2' := by omega
                      have R3 := Lib.hid (HO.out.2.2.of (show SinceOf z3.wd z6.wd by (repeat (first | (with_reducible exact SinceOf.refl _) | (with_reducible assumption) | (with_reducible refine SinceOf.alloc ?_ _) | (with_reducible refine SinceOf.drew ?_) | (with_reducible refine SinceOf.drewN ?_ _) | (with_reducible refine SinceOf.later ?_ _) | (with_reducible refine SinceOf.further ?_ _) | (with_reducible refine SinceOf.setCell ?_ (by first | exact Nat.le_refl _ | (simp; done) | omega | (simp; omega)) _)))))
                      have hbz : z2.wd.heap.size ≤ z6.wd.heap.size := hs6.size
                      clear hdb hd e t0
                      obtain ⟨hi, hz0, hz1, hz2⟩ := HI.out
                      go_wp2_with fail
                      go_region_law ((first
                        | (refine step_append_row rfl (.tmp 130) (.tmp 133) 51 rfl encN_len (by omega) encN_one i0 _ 8 Try.underlying51 hi hz0 hz1 hz2 rfl (l := []) (c := 0) (base := z2.wd.heap.size) rfl ?own (m := out.take p) (B := A2) (d := c2') ?hx ?hm ?h63 ?hby ?hbase ?_
                           case own => first | exact ownsN_empty _ _ hbz | exact (ownsN_empty _ _ hbz).alloc _ | (have q := ownsN_empty (z6.wd.alloc (.cells #[.int .i64 t] 3)) z2.wd.heap.size (by simp; omega); rw [show (z6.wd.alloc (.cells #[.int .i64 t] 3)).heap.size = z6.wd.heap.size + 1 from by simp] at q; exact q)
                           case hx => simp [Act.eval, hple]
                           case hm => exact (R3.out.take p).of (by (repeat (first | (with_reducible exact SinceOf.refl _) | (with_reducible assumption) | (with_reducible refine SinceOf.alloc ?_ _) | (with_reducible refine SinceOf.drew ?_) | (with_reducible refine SinceOf.drewN ?_ _) | (with_reducible refine SinceOf.later ?_ _) | (with_reducible refine SinceOf.further ?_ _) | (with_reducible refine SinceOf.setCell ?_ (by first | exact Nat.le_refl _ | (simp; done) | omega | (simp; omega)) _))))
                           case h63 => unfold maxLen; simp; omega
                           case hby => simp; omega
                           case hbase => simp; omega
                           intro A1 c1 w1 hown1 hgrow1 hb1
                           have hs1 : SinceOf z6.wd w1 := SinceOf.grown (by (repeat (first | (with_reducible exact SinceOf.refl _) | (with_reducible assumption) | (with_reducible refine SinceOf.alloc ?_ _) | (with_reducible refine SinceOf.drew ?_) | (with_reducible refine SinceOf.drewN ?_ _) | (with_reducible refine SinceOf.later ?_ _) | (with_reducible refine SinceOf.further ?_ _) | (with_reducible refine SinceOf.setCell ?_ (by first | exact Nat.le_refl _ | (simp; done) | omega | (simp; omega)) _)))) hgrow1 (by intro q hq; simp [blockOf] at hq; omega))
                        | (refine step_append_row rfl (.tmp 134) (.tmp 136) 51 rfl encN_len (by omega) encN_one i0 _ 8 Try.underlying51 hi hz0 hz1 hz2 rfl (l := [] ++ out.take p) (A := A1) (c := c1) (base := z2.wd.heap.size) ?hs ?own (m := [t]) rfl ?hm ?h63 ?hby ?hbase ?_
                           case hs => simp [Act.eval, hple]
                           case own => first | exact hown1.alloc _ | exact hown1
                           case hm => first
                             | exact ⟨(by intro h; cases h), .inr ⟨_, _, rfl, rowN_one _ _⟩⟩
                             | exact ⟨(by intro h; cases h), .inr ⟨_, _, rfl, RowAt.grown (RowAt.of (rowN_one z6.wd t) (by (repeat (first | (with_reducible exact SinceOf.refl _) | (with_reducible assumption) | (with_reducible refine SinceOf.alloc ?_ _) | (with_reducible refine SinceOf.drew ?_) | (with_reducible refine SinceOf.drewN ?_ _) | (with_reducible refine SinceOf.later ?_ _) | (with_reducible refine SinceOf.further ?_ _) | (with_reducible refine SinceOf.setCell ?_ (by first | exact Nat.le_refl _ | (simp; done) | omega | (simp; omega)) _))))) hgrow1 (by simp [blockOf])⟩⟩
                             | (have q := rowN_one (z6.wd.alloc (.cells #[] 3)) t
                                rw [show (z6.wd.alloc (.cells #[] 3)).heap.size = z6.wd.heap.size + 1 from by simp] at q
                                exact ⟨(by intro h; cases h), .inr ⟨_, _, rfl, RowAt.grown (RowAt.of q (by (repeat (first | (with_reducible exact SinceOf.refl _) | (with_reducible assumption) | (with_reducible refine SinceOf.alloc ?_ _) | (with_reducible refine SinceOf.drew ?_) | (with_reducible refine SinceOf.drewN ?_ _) | (with_reducible refine SinceOf.later ?_ _) | (with_reducible refine SinceOf.further ?_ _) | (with_reducible refine SinceOf.setCell ?_ (by first | exact Nat.le_refl _ | (simp; done) | omega | (simp; omega)) _))))) hgrow1 (by simp [blockOf])⟩⟩)
                           case h63 => unfold maxLen; simp; omega
                           case hby => simp; omega
                           case hbase => first | (have := hgrow1.size; simp at this ⊢; omega)
                           intro A2' c2'' w2 hown2 hgrow2 hb2
                           have hs2 : SinceOf z6.wd w2 := SinceOf.grown (by (repeat (first | (with_reducible exact SinceOf.refl _) | (with_reducible assumption) | (with_reducible refine SinceOf.alloc ?_ _) | (with_reducible refine SinceOf.drew ?_) | (with_reducible refine SinceOf.drewN ?_ _) | (with_reducible refine SinceOf.later ?_ _) | (with_reducible refine SinceOf.further ?_ _) | (with_reducible refine SinceOf.setCell ?_ (by first | exact Nat.le_refl _ | (simp; done) | omega | (simp; omega)) _)))) hgrow2 (by intro q hq; rw [hq] at hb1; simp [blockOf] at hb1; omega))
                        | (refine step_append_row rfl (.tmp 137) (.tmp 140) 51 rfl encN_len (by omega) encN_one i0 _ 8 Try.underlying51 hi hz0 hz1 hz2 rfl (l := [] ++ out.take p ++ [t]) (A := A2') (c := c2'') (base := z2.wd.heap.size) ?hs ?own (m := out.drop p) (B := if c2' = p then A2 else Option.map (fun x => x.add (p * 1)) A2) (d := c2' - p) ?hx ?hm ?h63 ?hby ?hbase ?_
                           case hs => simp [Act.eval, hple]
                           case own => exact hown2
                           case hx => simp [Act.eval]
                           case hm => exact (R3.out.drop hcap p).of (by (repeat (first | (with_reducible exact SinceOf.refl _) | (with_reducible assumption) | (with_reducible refine SinceOf.alloc ?_ _) | (with_reducible refine SinceOf.drew ?_) | (with_reducible refine SinceOf.drewN ?_ _) | (with_reducible refine SinceOf.later ?_ _) | (with_reducible refine SinceOf.further ?_ _) | (with_reducible refine SinceOf.setCell ?_ (by first | exact Nat.le_refl _ | (simp; done) | omega | (simp; omega)) _))))
                           case h63 => unfold maxLen; simp; omega
                           case hby => simp; omega
                           case hbase => have := hs2.size; simp at this ⊢; omega
                           intro A3 c3 w3 hown3 hgrow3 hb3
                           have hs3 : SinceOf z6.wd w3 := SinceOf.grown (by (repeat (first | (with_reducible exact SinceOf.refl _) | (with_reducible assumption) | (with_reducible refine SinceOf.alloc ?_ _) | (with_reducible refine SinceOf.drew ?_) | (with_reducible refine SinceOf.drewN ?_ _) | (with_reducible refine SinceOf.later ?_ _) | (with_reducible refine SinceOf.further ?_ _) | (with_reducible refine SinceOf.setCell ?_ (by first | exact Nat.le_refl _ | (simp; done) | omega | (simp; omega)) _)))) hgrow3 (by
                             have h1 := hs1.size
                             intro q hq; rw [hq] at hb3; rw [hq] at hb2
                             rcases hb2 with h | h
                             · rw [← h] at hb1; simp [blockOf] at hb1; omega
                             · simp at h; omega))))
                      all_goals go_wp2_with fail
                      all_goals go_roundg (ts.length - (n + 1))
                      all_goals first
                        | omega
                        | (refine ⟨n + 1, A3, c3, hltn, Nat.le_refl _, ?_, by go_num, ?_, SinceOf.trans hs6 hs3⟩
                           · rw [E.out]; simp [hple]; omega
                           · rw [E.out]; simpa using hown3)
              · rw [if_neg h0] at hsu
                have h0' : (te != 0) = true := by simpa using h0
                have HO := Lib.hid (And.intro hown hsu)
                clear hown hsu h0
                go_wp2_with fail
                refine region_later (by kernel_rfl) (by kernel_rfl) ?_
                repeat (go_big_quiet_step ((with_reducible refine Gives.later (NK _ (by (repeat (first | (with_reducible exact SinceOf.refl _) | (with_reducible assumption) | (with_reducible refine SinceOf.alloc ?_ _) | (with_reducible refine SinceOf.drew ?_) | (with_reducible refine SinceOf.drewN ?_ _) | (with_reducible refine SinceOf.later ?_ _) | (with_reducible refine SinceOf.further ?_ _) | (with_reducible refine SinceOf.setCell ?_ (by first | exact Nat.le_refl _ | (simp; done) | omega | (simp; omega)) _))))))))
                refine wpQuiet_nil ?_
                rintro _ ⟨z4, rfl⟩
                go_wp2_with fail
                go_roundg (ts.length - (n + 1))
                case measure => omega
                case rel =>
                  refine ⟨n + 1, A2, c2', hltn, Nat.le_refl _, ?_, by go_num, ?_, by (repeat (first | (with_reducible exact SinceOf.refl _) | (with_reducible assumption) | (with_reducible refine SinceOf.alloc ?_ _) | (with_reducible refine SinceOf.drew ?_) | (with_reducible refine SinceOf.drewN ?_ _) | (with_reducible refine SinceOf.later ?_ _) | (with_reducible refine SinceOf.further ?_ _) | (with_reducible refine SinceOf.setCell ?_ (by first | exact Nat.le_refl _ | (simp; done) | omega | (simp; omega)) _)))⟩
                  · rw [HO.out.2]
                  · rw [HO.out.2]; exact HO.out.1.of (by (repeat (first | (with_reducible exact SinceOf.refl _) | (with_reducible assumption) | (with_reducible refine SinceOf.alloc ?_ _) | (with_reducible refine SinceOf.drew ?_) | (with_reducible refine SinceOf.drewN ?_ _) | (with_reducible refine SinceOf.later ?_ _) | (with_reducible refine SinceOf.further ?_ _) | (with_reducible refine SinceOf.setCell ?_ (by first | exact Nat.le_refl _ | (simp; done) | omega | (simp; omega)) _))))
            · have hnl : n = ts.length := by omega
              have he : res = candTo ⟨some ⟨gc, oc, none⟩, sc, cals, sB, sd, R, most⟩ m ts n := by rw [HB.out, hnl]; unfold candTo candL; rw [List.take_length]
              generalize candTo ⟨some ⟨gc, oc, none⟩, sc, cals, sB, sd, R, most⟩ m ts n = out at *
              have HO := Lib.hid (And.intro hown he)
              clear hown he hnl
              go_wp2_with fail
              go_returns
              refine ⟨A2, c2', ?_, ?_, by (repeat (first | (with_reducible exact SinceOf.refl _) | (with_reducible assumption) | (with_reducible refine SinceOf.alloc ?_ _) | (with_reducible refine SinceOf.drew ?_) | (with_reducible refine SinceOf.drewN ?_ _) | (with_reducible refine SinceOf.later ?_ _) | (with_reducible refine SinceOf.further ?_ _) | (with_reducible refine SinceOf.setCell ?_ (by first | exact Nat.le_refl _ | (simp; done) | omega | (simp; omega)) _)))⟩
              · rw [HO.out.2]; rfl
              · rw [HO.out.2]; exact (HO.out.1.isRow encN_len)
end Go.Proofs.Ytdcncalcncomoaa
