/- Layer 15: the chain of the reference. -/
import Derived.Test.YtpbgimdbhgahkaaGreatMink4
import Derived.Test.YtpbgimdbhgahkaaGreatMink8
namespace Go.Proofs.YtpbgimdbhgahkaaGreat
open Go.RowKit Go.Sort
set_option linter.unusedVariables false
set_option linter.unusedSimpArgs false
attribute [local go_sem ↓] Go.wp_at_zero Go.wp_at_succ

theorem Owns.takeN {α : Type} {enc : α → List Value} {k base : Nat} {e : TypeId} {w : World} {A : Option Addr} {c : Nat} {l : List α} (hk : ∀ x, (enc x).length = k) (h : Owns enc k base e w A c l) (n : Nat) (hn : n ≤ l.length) (h0 : 0 < l.length) : Owns enc k base e w A c (l.take n) := by
  rcases h.2 with ⟨h', _⟩ | ⟨g', cap, cur, h', hb, hg, hnc, hcm, hcs, htake⟩
  · simp only [Value.slice.injEq] at h'
    omega
  · simp only [Value.slice.injEq, true_and] at h'
    obtain ⟨rfl, rfl⟩ := h'
    have hl : (l.take n).length = n := by rw [List.length_take]; omega
    refine ⟨by rw [flat_length hk], .inr ⟨g', c, cur, by rw [hl], hb, hg, by omega, hcm, hcs, ?_⟩⟩
    rw [hl]
    have h1 : (l.flatMap enc).take (n * k) = (l.take n).flatMap enc := by
      have e1 : l.flatMap enc = (l.take n).flatMap enc ++ (l.drop n).flatMap enc := by rw [← List.flatMap_append, List.take_append_drop]
      rw [e1, List.take_left' (by rw [flat_length hk, hl])]
    rw [← h1, ← htake, List.take_take, Nat.min_eq_left (Nat.mul_le_mul_right _ hn)]
theorem rev_at {s : List Pt} {a b : Pt} {r : List Pt} (hs : s = b :: a :: r) {n : Nat} (hn : n = s.length) (h1 : n - 1 < s.reverse.length) (h2 : n - 2 < s.reverse.length) : s.reverse[n - 1] = b ∧ s.reverse[n - 2] = a := by
  subst hs hn
  simp only [List.getElem_reverse]
  constructor
  · simp
  · simp only [List.length_cons]
    have : r.length + 1 + 1 - 1 - (r.length + 1 + 1 - 2) = 1 := by omega
    simp [this]
theorem popC_short {p : Pt} : ∀ {s : List Pt}, s.length < 2 → popC p s = s
  | [], _ => rfl
  | [_], _ => rfl
  | _ :: _ :: _, h => by simp at h; omega
theorem popC_sub {p : Pt} : ∀ {s : List Pt}, ∀ q ∈ popC p s, q ∈ s
  | [], q, h => h
  | [_], q, h => h
  | b :: a :: r, q, h => by
    unfold popC at h
    split at h
    · exact List.mem_cons_of_mem _ (popC_sub q h)
    · exact h
set_option maxRecDepth 100000 in
set_option maxHeartbeats 8000000 in
theorem chain15_any (A : Option Addr) (c : Nat) (pts : List (Int × Int)) (w : World) (h : IsVecs w A c pts) (hfar : ∀ q ∈ pts, near 100000 q) (hn : pts.length ≤ 100000) :
    Calls Tryz.prog 80 #[.slice A pts.length c] w fun e w' => ∃ A' c', e = .returned (.slice A' (lowC pts).length c') ∧ OwnVecs w.heap.size w' A' c' (lowC pts) ∧ SinceOf w w' := by
  have H := Lib.hid (And.intro h hfar)
  obtain ⟨i0, hi, hz0, hz1, hz2⟩ := info_parts infoVec
  have HI := Lib.hid (And.intro hi (And.intro hz0 (And.intro hz1 hz2)))
  clear h hfar hi hz0 hz1 hz2
  go_enter Tryz.func80, Tryz.ntmps80
  go_wp2_with fail
  go_loopg [3, 4] pts.length (fun gas s3 s4 wr => ∃ (k n : Nat) (A2 : Option Addr) (c2 : Nat) (s : List Pt), k ≤ pts.length ∧ pts.length - k ≤ gas ∧ s3 = .slice A2 n c2 ∧ s4 = .int .i64 k ∧ n = s.length ∧ n ≤ k ∧ OwnVecs w.heap.size wr A2 c2 s.reverse ∧ chainC [] pts = chainC s (pts.drop k) ∧ (∀ q ∈ s, near 100000 q) ∧ SinceOf w wr)
  case atStart => exact ⟨0, 0, none, 0, [], by omega, by omega, rfl, rfl, rfl, by omega, Owns.nil _ _ _ _ _, by rw [List.drop_zero], fun q hq => by (cases hq), SinceOf.refl _⟩
  case round =>
    obtain ⟨k, n, A2, c2, s, hk, hgas, rfl, rfl, hns, hnk, hown, hch, hfs, ⟨z, rfl⟩⟩ := hrel
    have hzs := z.size
    by_cases hlt : k < pts.length
    · have hr0 := H.out.1.of (w' := z.wd) (by (repeat (first | (with_reducible exact SinceOf.refl _) | (with_reducible assumption) | (with_reducible refine SinceOf.alloc ?_ _) | (with_reducible refine SinceOf.drew ?_) | (with_reducible refine SinceOf.drewN ?_ _) | (with_reducible refine SinceOf.later ?_ _) | (with_reducible refine SinceOf.further ?_ _) | (with_reducible refine SinceOf.setCell ?_ (by first | exact Nat.le_refl _ | (simp; done) | omega | (simp; omega)) _))))
      obtain ⟨g, off, hA, hr⟩ := hr0.at_ (by omega)
      subst hA
      have hOg := hr.there
      have p0 := hr.v0 k hlt
      have p1 := hr.v1 k hlt
      have hpf : near 100000 pts[k] := H.out.2 _ (List.getElem_mem hlt)
      rw [List.drop_eq_getElem_cons hlt] at hch
      have hch2 : chainC [] pts = chainC (pts[k] :: popC pts[k] s) (pts.drop (k + 1)) := hch
      clear hch
      generalize pts[k] = p at *
      obtain ⟨px, py⟩ := p
      simp only at p0 p1
      have HS := Lib.hid (And.intro hns (And.intro hown (And.intro hch2 (And.intro hfs hpf))))
      clear hns hown hch2 hfs hpf hr hr0
      go_wp2_with fail
      go_loopg [3] n (fun gas s3 wr => ∃ (m : Nat) (s' : List Pt), m ≤ n ∧ m ≤ gas ∧ s3 = .slice A2 m c2 ∧ m = s'.length ∧ OwnVecs w.heap.size wr A2 c2 s'.reverse ∧ popC (px, py) s = popC (px, py) s' ∧ (∀ q ∈ s', near 100000 q) ∧ SinceOf z.wd wr)
      case atStart => exact ⟨n, s, Nat.le_refl _, Nat.le_refl _, rfl, HS.out.1, HS.out.2.1.of (by (repeat (first | (with_reducible exact SinceOf.refl _) | (with_reducible assumption) | (with_reducible refine SinceOf.alloc ?_ _) | (with_reducible refine SinceOf.drew ?_) | (with_reducible refine SinceOf.drewN ?_ _) | (with_reducible refine SinceOf.later ?_ _) | (with_reducible refine SinceOf.further ?_ _) | (with_reducible refine SinceOf.setCell ?_ (by first | exact Nat.le_refl _ | (simp; done) | omega | (simp; omega)) _)))), rfl, HS.out.2.2.2.1, by (repeat (first | (with_reducible exact SinceOf.refl _) | (with_reducible assumption) | (with_reducible refine SinceOf.alloc ?_ _) | (with_reducible refine SinceOf.drew ?_) | (with_reducible refine SinceOf.drewN ?_ _) | (with_reducible refine SinceOf.later ?_ _) | (with_reducible refine SinceOf.further ?_ _) | (with_reducible refine SinceOf.setCell ?_ (by first | exact Nat.le_refl _ | (simp; done) | omega | (simp; omega)) _)))⟩
      case round =>
        obtain ⟨m, s', hmn, hgas2, rfl, hms, hown, hpop, hfs', ⟨z2, rfl⟩⟩ := hrel
        have hz2 := z2.size
        by_cases h2 : 2 ≤ m
        · obtain ⟨b, a, r, hs'⟩ : ∃ b a r, s' = b :: a :: r := by
            match s', hms with
            | [], e => simp at e; omega
            | [_], e => simp at e; omega
            | b :: a :: r, _ => exact ⟨b, a, r, rfl⟩
          have hrl : s'.reverse.length = m := by rw [List.length_reverse]; exact hms.symm
          have hcap : m ≤ c2 := by have := hown.le_cap; omega
          obtain ⟨ga, hA2, hga, hlv⟩ := hown.live encV_len (by omega)
          subst hA2
          have hO2 := hlv.row.there
          obtain ⟨e1, e2⟩ := rev_at hs' hms (by omega) (by omega)
          have b0 := hlv.row.v0 (m - 1) (by omega)
          have b1 := hlv.row.v1 (m - 1) (by omega)
          have a0 := hlv.row.v0 (m - 2) (by omega)
          have a1 := hlv.row.v1 (m - 2) (by omega)
          rw [e1] at b0 b1
          rw [e2] at a0 a1
          simp only [Nat.zero_add] at a0 a1 b0 b1
          have T := refTurn_any a.1 a.2 b.1 b.2 px py
          have ht := turn_near (m := 100000) (a := a) (b := b) (c := (px, py)) (by omega) (hfs' a (by rw [hs']; simp)) (hfs' b (by rw [hs']; simp)) HS.out.2.2.2.2
          simp only at ht
          rw [ht] at T
          have hc := cmpi_le (det a b (px, py))
          generalize hd : det a b (px, py) = dt at *
          obtain ⟨ax, ay⟩ := a
          obtain ⟨bx, by_⟩ := b
          simp only at a0 a1 b0 b1 T
          have w1 : IntKind.i64.wrap ((m : Int) - 1) = (m : Int) - 1 := IntWalk.i64_in _ (by omega)
          have w2 : IntKind.i64.wrap ((m : Int) - 2) = (m : Int) - 2 := IntWalk.i64_in _ (by omega)
          have w3 : ((m : Int) - 1).toNat = m - 1 := by omega
          have w4 : ((m : Int) - 2).toNat = m - 2 := by omega
          have w5 : 0 ≤ (m : Int) - 1 := by omega
          have w6 : 0 ≤ (m : Int) - 2 := by omega
          have w7 : (m : Int) - 1 < m := by omega
          have w8 : (m : Int) - 2 < m := by omega
          have w9 : decide (2 ≤ (m : Int)) = true := decide_eq_true (by omega)
          have w10 : decide (2 ≤ m) = true := decide_eq_true h2
          have HM := Lib.hid (And.intro hms (And.intro hown (And.intro hpop (And.intro hfs' (And.intro hs' (And.intro hd hrl))))))
          clear hms hown hpop hfs' hs' hd hrl e1 e2 hlv ht
          by_cases hle : dt ≤ 0
          · have hcl : decide (cmpi dt 0 ≤ 0) = true := decide_eq_true (hc.2 hle)
            generalize cmpi dt 0 = cd at *
            clear hc
            go_wp2_with fail
            refine region_later (by kernel_rfl) (by kernel_rfl) ?_
            repeat (go_big_quiet_step ((with_reducible refine Gives.later (T _))))
            refine wpQuiet_nil ?_
            rintro _ ⟨z4, rfl⟩
            clear w2 w4 w6 w8 w9 w10
            go_wp2_with fail
            go_roundg (m - 1)
            case measure => omega
            case rel =>
              obtain ⟨q1, q2, q3, q4, q5, q6, q7⟩ := HM.out
              refine ⟨m - 1, (ax, ay) :: r, by omega, Nat.le_refl _, by rfl, by rw [q1, q5]; simp, ?_, ?_, fun q hq => q4 q (by rw [q5]; exact List.mem_cons_of_mem _ hq), by (repeat (first | (with_reducible exact SinceOf.refl _) | (with_reducible assumption) | (with_reducible refine SinceOf.alloc ?_ _) | (with_reducible refine SinceOf.drew ?_) | (with_reducible refine SinceOf.drewN ?_ _) | (with_reducible refine SinceOf.later ?_ _) | (with_reducible refine SinceOf.further ?_ _) | (with_reducible refine SinceOf.setCell ?_ (by first | exact Nat.le_refl _ | (simp; done) | omega | (simp; omega)) _)))⟩
              · have := (q2.of (w' := z4.wd) (by (repeat (first | (with_reducible exact SinceOf.refl _) | (with_reducible assumption) | (with_reducible refine SinceOf.alloc ?_ _) | (with_reducible refine SinceOf.drew ?_) | (with_reducible refine SinceOf.drewN ?_ _) | (with_reducible refine SinceOf.later ?_ _) | (with_reducible refine SinceOf.further ?_ _) | (with_reducible refine SinceOf.setCell ?_ (by first | exact Nat.le_refl _ | (simp; done) | omega | (simp; omega)) _))))).takeN encV_len (m - 1) (by omega) (by omega)
                rw [show ((ax, ay) :: r).reverse = s'.reverse.take (m - 1) from by rw [q5, List.reverse_cons (a := (bx, by_)), List.take_left' (by rw [List.length_reverse]; rw [q5] at q1; simp at q1 ⊢; omega)]]
                exact this
              · rw [q3, q5]
                show popC (px, py) ((bx, by_) :: (ax, ay) :: r) = _
                rw [popC, q6, if_pos hle]
          · have hcl : decide (cmpi dt 0 ≤ 0) = false := decide_eq_false (fun h => hle (hc.1 h))
            generalize cmpi dt 0 = cd at *
            clear hc
            go_wp2_with fail
            refine region_later (by kernel_rfl) (by kernel_rfl) ?_
            repeat (go_big_quiet_step ((with_reducible refine Gives.later (T _))))
            refine wpQuiet_nil ?_
            rintro _ ⟨z4, rfl⟩
            clear w1 w2 w3 w4 w5 w6 w7 w8 w9 w10
            have HP := Lib.hid (And.intro (show popC (px, py) s = s' by rw [HM.out.2.2.1, HM.out.2.2.2.2.1, popC, HM.out.2.2.2.2.2.1, if_neg (by omega)]) (And.intro HM.out.2.2.2.2.2.2 HM.out.2.1))
            have HF := Lib.hid HM.out.2.2.2.1
            have hz4 := z4.size
            go_wp2_with fail
            obtain ⟨hi, hz0, hz1, hz2⟩ := HI.out
            have hbz : w.heap.size ≤ z4.wd.heap.size := by omega
            have hown4 := HP.out.2.2.of (w' := z4.wd) (by (repeat (first | (with_reducible exact SinceOf.refl _) | (with_reducible assumption) | (with_reducible refine SinceOf.alloc ?_ _) | (with_reducible refine SinceOf.drew ?_) | (with_reducible refine SinceOf.drewN ?_ _) | (with_reducible refine SinceOf.later ?_ _) | (with_reducible refine SinceOf.further ?_ _) | (with_reducible refine SinceOf.setCell ?_ (by first | exact Nat.le_refl _ | (simp; done) | omega | (simp; omega)) _))))
            have R4 := Lib.hid (hown4.isRow encV_len)
            have hlen4 := HP.out.2.1
            have hlb : s'.length ≤ 100000 := by have q := hlen4; rw [List.length_reverse] at q; omega
            clear hown4
            go_region_law ((first
              | (refine step_append_row rfl (.tmp 39) (.tmp 40) 40 rfl encV_len (by omega) encV_one i0 _ 16 Tryz.underlying40 hi hz0 hz1 hz2 rfl (l := []) (c := 0) (base := w.heap.size) rfl ?own (m := s'.reverse) (B := some ⟨ga, 0, none⟩) (d := c2) ?hx ?hm ?h63 ?hby ?hbase ?_
                 case own => first | exact owns_empty _ _ hbz | exact (owns_empty _ _ hbz).alloc _ | (have q := owns_empty (z4.wd.alloc (.cells #[.int .i64 px, .int .i64 py] 24)) w.heap.size (by simp; omega); rw [show (z4.wd.alloc (.cells #[.int .i64 px, .int .i64 py] 24)).heap.size = z4.wd.heap.size + 1 from by simp] at q; exact q)
                 case hx => (rw [hlen4]; rfl)
                 case hm => exact R4.out.of (by (repeat (first | (with_reducible exact SinceOf.refl _) | (with_reducible assumption) | (with_reducible refine SinceOf.alloc ?_ _) | (with_reducible refine SinceOf.drew ?_) | (with_reducible refine SinceOf.drewN ?_ _) | (with_reducible refine SinceOf.later ?_ _) | (with_reducible refine SinceOf.further ?_ _) | (with_reducible refine SinceOf.setCell ?_ (by first | exact Nat.le_refl _ | (simp; done) | omega | (simp; omega)) _))))
                 case h63 => unfold maxLen; rw [hlen4]; simp; omega
                 case hby => rw [hlen4]; simp; omega
                 case hbase => simp; omega
                 intro A5 c5 w5 hown5 hgrow5 hb5
                 have hs5 : SinceOf z4.wd w5 := SinceOf.grown (by (repeat (first | (with_reducible exact SinceOf.refl _) | (with_reducible assumption) | (with_reducible refine SinceOf.alloc ?_ _) | (with_reducible refine SinceOf.drew ?_) | (with_reducible refine SinceOf.drewN ?_ _) | (with_reducible refine SinceOf.later ?_ _) | (with_reducible refine SinceOf.further ?_ _) | (with_reducible refine SinceOf.setCell ?_ (by first | exact Nat.le_refl _ | (simp; done) | omega | (simp; omega)) _)))) hgrow5 (by intro q hq; simp [blockOf] at hq; omega)
                 have d0w : w5.cell? ⟨g, off + k * 2, none⟩ = some (.int .i64 px) := hgrow5.cell (by simp [go_sem, p0]) (by simp [blockOf]; have := hOg.elim fun q => q.lt; omega)
                 have d1w : w5.cell? ⟨g, off + k * 2 + 1, none⟩ = some (.int .i64 py) := hgrow5.cell (by simp [go_sem, p1]) (by simp [blockOf]; have := hOg.elim fun q => q.lt; omega))
              | (refine step_append_row rfl (.tmp 41) (.tmp 46) 40 rfl encV_len (by omega) encV_one i0 _ 16 Tryz.underlying40 hi hz0 hz1 hz2 rfl (l := [] ++ s'.reverse) (A := A5) (c := c5) (base := w.heap.size) ?hs ?own (m := [(px, py)]) rfl ?hm ?h63 ?hby ?hbase ?_
                 case hs => (rw [List.nil_append]; first | rfl | simp [Act.eval, hlen4])
                 case own => first | exact hown5.alloc _ | exact hown5
                 case hm => first
                   | exact ⟨(by intro h; cases h), .inr ⟨_, _, rfl, row_one _ _ _⟩⟩
                   | exact ⟨(by intro h; cases h), .inr ⟨_, _, rfl, RowAt.grown (RowAt.of (row_one z4.wd px py) (by (repeat (first | (with_reducible exact SinceOf.refl _) | (with_reducible assumption) | (with_reducible refine SinceOf.alloc ?_ _) | (with_reducible refine SinceOf.drew ?_) | (with_reducible refine SinceOf.drewN ?_ _) | (with_reducible refine SinceOf.later ?_ _) | (with_reducible refine SinceOf.further ?_ _) | (with_reducible refine SinceOf.setCell ?_ (by first | exact Nat.le_refl _ | (simp; done) | omega | (simp; omega)) _))))) hgrow5 (by simp [blockOf])⟩⟩
                   | (have q := row_one (z4.wd.alloc (.cells #[] 24)) px py
                      rw [show (z4.wd.alloc (.cells #[] 24)).heap.size = z4.wd.heap.size + 1 from by simp] at q
                      exact ⟨(by intro h; cases h), .inr ⟨_, _, rfl, RowAt.grown (RowAt.of q (by (repeat (first | (with_reducible exact SinceOf.refl _) | (with_reducible assumption) | (with_reducible refine SinceOf.alloc ?_ _) | (with_reducible refine SinceOf.drew ?_) | (with_reducible refine SinceOf.drewN ?_ _) | (with_reducible refine SinceOf.later ?_ _) | (with_reducible refine SinceOf.further ?_ _) | (with_reducible refine SinceOf.setCell ?_ (by first | exact Nat.le_refl _ | (simp; done) | omega | (simp; omega)) _))))) hgrow5 (by simp [blockOf])⟩⟩)
                 case h63 => unfold maxLen; simp; omega
                 case hby => simp; omega
                 case hbase => first | (have := hgrow5.size; simp at this ⊢; omega)
                 intro A6 c6 w6 hown6 hgrow6 hb6
                 have hs6 : SinceOf z4.wd w6 := SinceOf.grown (by (repeat (first | (with_reducible exact SinceOf.refl _) | (with_reducible assumption) | (with_reducible refine SinceOf.alloc ?_ _) | (with_reducible refine SinceOf.drew ?_) | (with_reducible refine SinceOf.drewN ?_ _) | (with_reducible refine SinceOf.later ?_ _) | (with_reducible refine SinceOf.further ?_ _) | (with_reducible refine SinceOf.setCell ?_ (by first | exact Nat.le_refl _ | (simp; done) | omega | (simp; omega)) _)))) hgrow6 (by intro q hq; rw [hq] at hb5; simp [blockOf] at hb5; omega))))
            all_goals go_wp2_with fail
            all_goals go_roundg (pts.length - (k + 1))
            all_goals first
              | omega
              | (refine ⟨k + 1, s'.length + 1, A6, c6, (px, py) :: s', hlt, Nat.le_refl _, (by have q := HP.out.2.1; rw [List.length_reverse] at q; simp; omega), by go_num, by simp, by rw [List.length_reverse] at hlen4; omega, by rw [List.reverse_cons]; simpa using hown6, by rw [HS.out.2.2.1, HP.out.1], fun q hq => ?_, ?_⟩
                 · rcases List.mem_cons.1 hq with rfl | hq
                   · exact HS.out.2.2.2.2
                   · exact HF.out q hq
                 · exact SinceOf.trans (by (repeat (first | (with_reducible exact SinceOf.refl _) | (with_reducible assumption) | (with_reducible refine SinceOf.alloc ?_ _) | (with_reducible refine SinceOf.drew ?_) | (with_reducible refine SinceOf.drewN ?_ _) | (with_reducible refine SinceOf.later ?_ _) | (with_reducible refine SinceOf.further ?_ _) | (with_reducible refine SinceOf.setCell ?_ (by first | exact Nat.le_refl _ | (simp; done) | omega | (simp; omega)) _)))) hs6)
        · have w9 : decide (2 ≤ (m : Int)) = false := decide_eq_false (by omega)
          have w10 : decide (2 ≤ m) = false := decide_eq_false h2
          have hps : popC (px, py) s' = s' := popC_short (by omega)
          have HP := Lib.hid (And.intro (hpop.trans hps) (And.intro (show s'.reverse.length = m by rw [List.length_reverse]; exact hms.symm) hown))
          have HF := Lib.hid hfs'
          clear hpop hps hms hown hfs'
          go_wp2_with fail
          refine region_later (by kernel_rfl) (by kernel_rfl) ?_
          repeat (go_big_quiet_step (fail))
          refine wpQuiet_nil ?_
          rintro _ ⟨z4, rfl⟩
          clear w9 w10
          have hz4 := z4.size
          go_wp2_with fail
          obtain ⟨hi, hz0, hz1, hz2⟩ := HI.out
          have hbz : w.heap.size ≤ z4.wd.heap.size := by omega
          have hown4 := HP.out.2.2.of (w' := z4.wd) (by (repeat (first | (with_reducible exact SinceOf.refl _) | (with_reducible assumption) | (with_reducible refine SinceOf.alloc ?_ _) | (with_reducible refine SinceOf.drew ?_) | (with_reducible refine SinceOf.drewN ?_ _) | (with_reducible refine SinceOf.later ?_ _) | (with_reducible refine SinceOf.further ?_ _) | (with_reducible refine SinceOf.setCell ?_ (by first | exact Nat.le_refl _ | (simp; done) | omega | (simp; omega)) _))))
          have R4 := Lib.hid (hown4.isRow encV_len)
          have hlen4 := HP.out.2.1
          have hlb : s'.length ≤ 100000 := by have q := hlen4; rw [List.length_reverse] at q; omega
          clear hown4
          go_region_law ((first
            | (refine step_append_row rfl (.tmp 39) (.tmp 40) 40 rfl encV_len (by omega) encV_one i0 _ 16 Tryz.underlying40 hi hz0 hz1 hz2 rfl (l := []) (c := 0) (base := w.heap.size) rfl ?own (m := s'.reverse) (B := A2) (d := c2) ?hx ?hm ?h63 ?hby ?hbase ?_
               case own => first | exact owns_empty _ _ hbz | exact (owns_empty _ _ hbz).alloc _ | (have q := owns_empty (z4.wd.alloc (.cells #[.int .i64 px, .int .i64 py] 24)) w.heap.size (by simp; omega); rw [show (z4.wd.alloc (.cells #[.int .i64 px, .int .i64 py] 24)).heap.size = z4.wd.heap.size + 1 from by simp] at q; exact q)
               case hx => (rw [hlen4]; rfl)
               case hm => exact R4.out.of (by (repeat (first | (with_reducible exact SinceOf.refl _) | (with_reducible assumption) | (with_reducible refine SinceOf.alloc ?_ _) | (with_reducible refine SinceOf.drew ?_) | (with_reducible refine SinceOf.drewN ?_ _) | (with_reducible refine SinceOf.later ?_ _) | (with_reducible refine SinceOf.further ?_ _) | (with_reducible refine SinceOf.setCell ?_ (by first | exact Nat.le_refl _ | (simp; done) | omega | (simp; omega)) _))))
               case h63 => unfold maxLen; rw [hlen4]; simp; omega
               case hby => rw [hlen4]; simp; omega
               case hbase => simp; omega
               intro A5 c5 w5 hown5 hgrow5 hb5
               have hs5 : SinceOf z4.wd w5 := SinceOf.grown (by (repeat (first | (with_reducible exact SinceOf.refl _) | (with_reducible assumption) | (with_reducible refine SinceOf.alloc ?_ _) | (with_reducible refine SinceOf.drew ?_) | (with_reducible refine SinceOf.drewN ?_ _) | (with_reducible refine SinceOf.later ?_ _) | (with_reducible refine SinceOf.further ?_ _) | (with_reducible refine SinceOf.setCell ?_ (by first | exact Nat.le_refl _ | (simp; done) | omega | (simp; omega)) _)))) hgrow5 (by intro q hq; simp [blockOf] at hq; omega)
               have d0w : w5.cell? ⟨g, off + k * 2, none⟩ = some (.int .i64 px) := hgrow5.cell (by simp [go_sem, p0]) (by simp [blockOf]; have := hOg.elim fun q => q.lt; omega)
               have d1w : w5.cell? ⟨g, off + k * 2 + 1, none⟩ = some (.int .i64 py) := hgrow5.cell (by simp [go_sem, p1]) (by simp [blockOf]; have := hOg.elim fun q => q.lt; omega))
            | (refine step_append_row rfl (.tmp 41) (.tmp 46) 40 rfl encV_len (by omega) encV_one i0 _ 16 Tryz.underlying40 hi hz0 hz1 hz2 rfl (l := [] ++ s'.reverse) (A := A5) (c := c5) (base := w.heap.size) ?hs ?own (m := [(px, py)]) rfl ?hm ?h63 ?hby ?hbase ?_
               case hs => (rw [List.nil_append]; first | rfl | simp [Act.eval, hlen4])
               case own => first | exact hown5.alloc _ | exact hown5
               case hm => first
                 | exact ⟨(by intro h; cases h), .inr ⟨_, _, rfl, row_one _ _ _⟩⟩
                 | exact ⟨(by intro h; cases h), .inr ⟨_, _, rfl, RowAt.grown (RowAt.of (row_one z4.wd px py) (by (repeat (first | (with_reducible exact SinceOf.refl _) | (with_reducible assumption) | (with_reducible refine SinceOf.alloc ?_ _) | (with_reducible refine SinceOf.drew ?_) | (with_reducible refine SinceOf.drewN ?_ _) | (with_reducible refine SinceOf.later ?_ _) | (with_reducible refine SinceOf.further ?_ _) | (with_reducible refine SinceOf.setCell ?_ (by first | exact Nat.le_refl _ | (simp; done) | omega | (simp; omega)) _))))) hgrow5 (by simp [blockOf])⟩⟩
                 | (have q := row_one (z4.wd.alloc (.cells #[] 24)) px py
                    rw [show (z4.wd.alloc (.cells #[] 24)).heap.size = z4.wd.heap.size + 1 from by simp] at q
                    exact ⟨(by intro h; cases h), .inr ⟨_, _, rfl, RowAt.grown (RowAt.of q (by (repeat (first | (with_reducible exact SinceOf.refl _) | (with_reducible assumption) | (with_reducible refine SinceOf.alloc ?_ _) | (with_reducible refine SinceOf.drew ?_) | (with_reducible refine SinceOf.drewN ?_ _) | (with_reducible refine SinceOf.later ?_ _) | (with_reducible refine SinceOf.further ?_ _) | (with_reducible refine SinceOf.setCell ?_ (by first | exact Nat.le_refl _ | (simp; done) | omega | (simp; omega)) _))))) hgrow5 (by simp [blockOf])⟩⟩)
               case h63 => unfold maxLen; simp; omega
               case hby => simp; omega
               case hbase => first | (have := hgrow5.size; simp at this ⊢; omega)
               intro A6 c6 w6 hown6 hgrow6 hb6
               have hs6 : SinceOf z4.wd w6 := SinceOf.grown (by (repeat (first | (with_reducible exact SinceOf.refl _) | (with_reducible assumption) | (with_reducible refine SinceOf.alloc ?_ _) | (with_reducible refine SinceOf.drew ?_) | (with_reducible refine SinceOf.drewN ?_ _) | (with_reducible refine SinceOf.later ?_ _) | (with_reducible refine SinceOf.further ?_ _) | (with_reducible refine SinceOf.setCell ?_ (by first | exact Nat.le_refl _ | (simp; done) | omega | (simp; omega)) _)))) hgrow6 (by intro q hq; rw [hq] at hb5; simp [blockOf] at hb5; omega))))
          all_goals go_wp2_with fail
          all_goals go_roundg (pts.length - (k + 1))
          all_goals first
            | omega
            | (refine ⟨k + 1, s'.length + 1, A6, c6, (px, py) :: s', hlt, Nat.le_refl _, (by have q := HP.out.2.1; rw [List.length_reverse] at q; simp; omega), by go_num, by simp, by rw [List.length_reverse] at hlen4; omega, by rw [List.reverse_cons]; simpa using hown6, by rw [HS.out.2.2.1, HP.out.1], fun q hq => ?_, ?_⟩
               · rcases List.mem_cons.1 hq with rfl | hq
                 · exact HS.out.2.2.2.2
                 · exact HF.out q hq
               · exact SinceOf.trans (by (repeat (first | (with_reducible exact SinceOf.refl _) | (with_reducible assumption) | (with_reducible refine SinceOf.alloc ?_ _) | (with_reducible refine SinceOf.drew ?_) | (with_reducible refine SinceOf.drewN ?_ _) | (with_reducible refine SinceOf.later ?_ _) | (with_reducible refine SinceOf.further ?_ _) | (with_reducible refine SinceOf.setCell ?_ (by first | exact Nat.le_refl _ | (simp; done) | omega | (simp; omega)) _)))) hs6)
    · have hkl : k = pts.length := by omega
      subst hkl
      rw [List.drop_length] at hch
      have hl : lowC pts = s.reverse := by unfold lowC; rw [hch]; rfl
      have HS := Lib.hid (And.intro hown (And.intro hl (show (lowC pts).length = n by rw [hl, List.length_reverse]; exact hns.symm)))
      clear hown hl hch hns hfs
      go_wp2_with fail
      go_returns
      exact ⟨A2, c2, by rw [HS.out.2.2]; rfl, by rw [HS.out.2.1]; exact HS.out.1, ⟨z, rfl⟩⟩
end Go.Proofs.YtpbgimdbhgahkaaGreat
