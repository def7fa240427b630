/- Layer 52: shop. -/
import Derived.Test.YtdcncalcncomoaaSch2
namespace Go.Proofs.Ytdcncalcncomoaa
open Go.RowKit Go.Sort
set_option linter.unusedVariables false
attribute [local go_sem ↓] Go.wp_at_zero Go.wp_at_succ

def get2 (R : List RowR) (a b : Nat) : Int := (R.getD a ⟨none, 0, []⟩).xs.getD b 0
def triB (R : List RowR) (a c b : Nat) : Bool := decide (get2 R a c ≤ wadd (get2 R a b) (get2 R b c))
def nearB (R : List RowR) (a c : Nat) : Bool := (decide (0 ≤ get2 R a c) && decide (get2 R a c ≤ 1000)) && !(a == c && get2 R a c != 0)
def cellB (R : List RowR) (a c : Nat) : Bool := nearB R a c && (List.range R.length).all (triB R a c)
def lineB (R : List RowR) (a : Nat) : Bool := (List.range R.length).all (cellB R a)
def setupB (R : List RowR) : Bool := (List.range R.length).all (lineB R)
def sizesB (R : List RowR) : Bool := R.all fun r => r.xs.length == R.length
def headB (s : ShopR) : Bool := (decide (1 ≤ (s.cals.length : Int)) && decide ((s.cals.length : Int) ≤ 6)) && (!s.cals.any wrongC && ((decide (1 ≤ (s.rows.length : Int)) && decide ((s.rows.length : Int) ≤ 8)) && (decide (1 ≤ s.most) && decide (s.most ≤ 40))))
def shopB (s : ShopR) : Bool := headB s && (sizesB s.rows && setupB s.rows)
theorem all_range (f : Nat → Bool) {n k : Nat} (h : k < n) : ((List.range n).drop k).all f = (f k && ((List.range n).drop (k + 1)).all f) := by
  rw [List.drop_eq_getElem_cons (by simpa using h), List.all_cons, List.getElem_range]
theorem all_range_end (f : Nat → Bool) (n : Nat) : ((List.range n).drop n).all f = true := by
  rw [List.drop_eq_nil_of_le (by simp)]; rfl
theorem get2_at {R : List RowR} {a b : Nat} (h : a < R.length) (k : b < R[a].xs.length) : get2 R a b = R[a].xs[b] := by
  unfold get2
  have e : R.getD a ⟨none, 0, []⟩ = R[a] := by rw [List.getD_eq_getElem?_getD, List.getElem?_eq_getElem h, Option.getD_some]
  rw [e, List.getD_eq_getElem?_getD, List.getElem?_eq_getElem k, Option.getD_some]

set_option maxRecDepth 100000 in
set_option maxHeartbeats 8000000 in
theorem shop_any (s : ShopR) (w : World) (h : IsShop w s) : Gives Try.prog 47 #[shopV s] w (.bool (shopB s)) := by
  apply Gives.ret
  obtain ⟨A, c, cals, B, d, R, most⟩ := s
  have I1 := fun W => in_any (cals.length : Int) 1 6 W
  have I2 := fun W hW => containsCal_any A c cals W (h.cals.of hW)
  have I3 := fun W => in_any (R.length : Int) 1 8 W
  have I4 := fun W => in_any most 1 40 W
  have hS : shopB ⟨A, c, cals, B, d, R, most⟩ = (headB ⟨A, c, cals, B, d, R, most⟩ && (sizesB R && setupB R)) := rfl
  have hH : headB ⟨A, c, cals, B, d, R, most⟩ = ((decide (1 ≤ (cals.length : Int)) && decide ((cals.length : Int) ≤ 6)) && (!cals.any wrongC && ((decide (1 ≤ (R.length : Int)) && decide ((R.length : Int) ≤ 8)) && (decide (1 ≤ most) && decide (most ≤ 40))))) := rfl
  rw [hS, hH]
  clear hS hH
  have hR8 : (decide (1 ≤ (R.length : Int)) && decide ((R.length : Int) ≤ 8)) = true → R.length ≤ 8 := by simp; omega
  generalize (decide (1 ≤ (cals.length : Int)) && decide ((cals.length : Int) ≤ 6)) = q1 at *
  generalize cals.any wrongC = q2 at *
  generalize (decide (1 ≤ (R.length : Int)) && decide ((R.length : Int) ≤ 8)) = q3 at *
  generalize (decide (1 ≤ most) && decide (most ≤ 40)) = q4 at *
  have hr := h.rows
  have hrl := hr.len
  have hcl := h.cals.len
  have H := Lib.hid hr
  clear h hr
  have hcase : (q1 = false ∨ (q1 = true ∧ q2 = true) ∨ (q1 = true ∧ q2 = false ∧ q3 = false) ∨ (q1 = true ∧ q2 = false ∧ q3 = true ∧ q4 = false)) ∨ (q1 = true ∧ q2 = false ∧ q3 = true ∧ q4 = true) := by
    cases q1 <;> cases q2 <;> cases q3 <;> cases q4 <;> simp
  rcases hcase with hcase | ⟨rfl, rfl, rfl, rfl⟩
  · rcases hcase with rfl | ⟨rfl, rfl⟩ | ⟨rfl, rfl, rfl⟩ | ⟨rfl, rfl, rfl, rfl⟩
    · go_enter Try.func47, Try.ntmps47
      go_wp2_with fail
      refine (I1 _).mono ?_
      rintro e w' ⟨rfl, rfl⟩
      go_wp2_with fail
      go_returns
      exact ⟨by simp, by (repeat (first | (with_reducible exact LaterOf.refl _) | (with_reducible refine LaterOf.alloc ?_ _) | (with_reducible refine LaterOf.drew ?_) | (with_reducible refine LaterOf.drewN ?_ _) | (with_reducible refine LaterOf.later ?_ _) | (with_reducible refine LaterOf.setCell ?_ (by first | exact Nat.le_refl _ | (simp; done) | omega | (simp; omega)) _)))⟩
    · go_enter Try.func47, Try.ntmps47
      go_wp2_with fail
      refine (I1 _).mono ?_
      rintro e w' ⟨rfl, rfl⟩
      go_wp2_with fail
      refine (I2 _ (by (repeat (first | (with_reducible exact SinceOf.refl _) | (with_reducible assumption) | (with_reducible refine SinceOf.alloc ?_ _) | (with_reducible refine SinceOf.drew ?_) | (with_reducible refine SinceOf.drewN ?_ _) | (with_reducible refine SinceOf.later ?_ _) | (with_reducible refine SinceOf.further ?_ _) | (with_reducible refine SinceOf.setCell ?_ (by first | exact Nat.le_refl _ | (simp; done) | omega | (simp; omega)) _))))).calls.mono ?_
      rintro e _ ⟨rfl, x1, rfl⟩
      go_wp2_with fail
      go_returns
      exact ⟨by simp, by (repeat (first | (with_reducible exact LaterOf.refl _) | (with_reducible refine LaterOf.alloc ?_ _) | (with_reducible refine LaterOf.drew ?_) | (with_reducible refine LaterOf.drewN ?_ _) | (with_reducible refine LaterOf.later ?_ _) | (with_reducible refine LaterOf.setCell ?_ (by first | exact Nat.le_refl _ | (simp; done) | omega | (simp; omega)) _)))⟩
    · go_enter Try.func47, Try.ntmps47
      go_wp2_with fail
      refine (I1 _).mono ?_
      rintro e w' ⟨rfl, rfl⟩
      go_wp2_with fail
      refine (I2 _ (by (repeat (first | (with_reducible exact SinceOf.refl _) | (with_reducible assumption) | (with_reducible refine SinceOf.alloc ?_ _) | (with_reducible refine SinceOf.drew ?_) | (with_reducible refine SinceOf.drewN ?_ _) | (with_reducible refine SinceOf.later ?_ _) | (with_reducible refine SinceOf.further ?_ _) | (with_reducible refine SinceOf.setCell ?_ (by first | exact Nat.le_refl _ | (simp; done) | omega | (simp; omega)) _))))).calls.mono ?_
      rintro e _ ⟨rfl, x1, rfl⟩
      go_wp2_with fail
      refine (I3 _).mono ?_
      rintro e w' ⟨rfl, rfl⟩
      go_wp2_with fail
      go_returns
      exact ⟨by simp, by (repeat (first | (with_reducible exact LaterOf.refl _) | (with_reducible refine LaterOf.alloc ?_ _) | (with_reducible refine LaterOf.drew ?_) | (with_reducible refine LaterOf.drewN ?_ _) | (with_reducible refine LaterOf.later ?_ _) | (with_reducible refine LaterOf.setCell ?_ (by first | exact Nat.le_refl _ | (simp; done) | omega | (simp; omega)) _)))⟩
    · go_enter Try.func47, Try.ntmps47
      go_wp2_with fail
      refine (I1 _).mono ?_
      rintro e w' ⟨rfl, rfl⟩
      go_wp2_with fail
      refine (I2 _ (by (repeat (first | (with_reducible exact SinceOf.refl _) | (with_reducible assumption) | (with_reducible refine SinceOf.alloc ?_ _) | (with_reducible refine SinceOf.drew ?_) | (with_reducible refine SinceOf.drewN ?_ _) | (with_reducible refine SinceOf.later ?_ _) | (with_reducible refine SinceOf.further ?_ _) | (with_reducible refine SinceOf.setCell ?_ (by first | exact Nat.le_refl _ | (simp; done) | omega | (simp; omega)) _))))).calls.mono ?_
      rintro e _ ⟨rfl, x1, rfl⟩
      go_wp2_with fail
      refine (I3 _).mono ?_
      rintro e w' ⟨rfl, rfl⟩
      go_wp2_with fail
      refine (I4 _).mono ?_
      rintro e w' ⟨rfl, rfl⟩
      go_wp2_with fail
      go_returns
      exact ⟨by simp, by (repeat (first | (with_reducible exact LaterOf.refl _) | (with_reducible refine LaterOf.alloc ?_ _) | (with_reducible refine LaterOf.drew ?_) | (with_reducible refine LaterOf.drewN ?_ _) | (with_reducible refine LaterOf.later ?_ _) | (with_reducible refine LaterOf.setCell ?_ (by first | exact Nat.le_refl _ | (simp; done) | omega | (simp; omega)) _)))⟩
  · have hR8 := hR8 rfl
    rw [show (true && (!false && (true && true)) && (sizesB R && setupB R)) = (sizesB R && setupB R) from by simp]
    go_enter Try.func47, Try.ntmps47
    go_wp2_with fail
    refine (I1 _).mono ?_
    rintro e w' ⟨rfl, rfl⟩
    go_wp2_with fail
    refine (I2 _ (by (repeat (first | (with_reducible exact SinceOf.refl _) | (with_reducible assumption) | (with_reducible refine SinceOf.alloc ?_ _) | (with_reducible refine SinceOf.drew ?_) | (with_reducible refine SinceOf.drewN ?_ _) | (with_reducible refine SinceOf.later ?_ _) | (with_reducible refine SinceOf.further ?_ _) | (with_reducible refine SinceOf.setCell ?_ (by first | exact Nat.le_refl _ | (simp; done) | omega | (simp; omega)) _))))).calls.mono ?_
    rintro e _ ⟨rfl, x1, rfl⟩
    go_wp2_with fail
    refine (I3 _).mono ?_
    rintro e w' ⟨rfl, rfl⟩
    go_wp2_with fail
    refine (I4 _).mono ?_
    rintro e w' ⟨rfl, rfl⟩
    go_wp2_with fail
    go_loopg [38] R.length (fun gas s38 wr => ∃ k : Nat, k ≤ R.length ∧ R.length - k ≤ gas ∧ s38 = .int .i64 k ∧ x1.wd = wr ∧ sizesB R = (R.drop k).all fun r => r.xs.length == R.length)
    case atStart => exact ⟨0, by omega, by omega, rfl, rfl, by rw [List.drop_zero]; rfl⟩
    case round =>
      obtain ⟨k, hk, hgas, rfl, rfl, hsz⟩ := hrel
      by_cases hlt : k < R.length
      · have hc := H.out.of (w' := x1.wd) (by (repeat (first | (with_reducible exact SinceOf.refl _) | (with_reducible assumption) | (with_reducible refine SinceOf.alloc ?_ _) | (with_reducible refine SinceOf.drew ?_) | (with_reducible refine SinceOf.drewN ?_ _) | (with_reducible refine SinceOf.later ?_ _) | (with_reducible refine SinceOf.further ?_ _) | (with_reducible refine SinceOf.setCell ?_ (by first | exact Nat.le_refl _ | (simp; done) | omega | (simp; omega)) _))))
        have hxs := (hc.all _ (List.getElem_mem hlt)).2
        obtain ⟨g, off, rfl, hr⟩ := hc.row.at_ (by omega)
        have hO := hr.there
        have r0 := hr.r0 k hlt
        rw [List.drop_eq_getElem_cons hlt, List.all_cons] at hsz
        generalize R[k] = r at *
        clear hc hr
        by_cases he : r.xs.length = R.length
        · rw [show (r.xs.length == R.length) = true from by simpa using he, Bool.true_and] at hsz
          have HZ := Lib.hid hsz
          clear hsz
          go_wp2_with fail
          go_roundg (R.length - (k + 1))
          case measure => omega
          case rel => exact ⟨k + 1, hlt, Nat.le_refl _, by go_num, rfl, HZ.out⟩
        · rw [show (r.xs.length == R.length) = false from by simpa using he, Bool.false_and] at hsz
          have HZ := Lib.hid hsz
          clear hsz
          have hne : (((r.xs.length : Int)) != ((R.length : Int))) = true := by simp; omega
          go_wp2_with fail
          go_returns
          exact ⟨by rw [HZ.out]; rfl, by (repeat (first | (with_reducible exact LaterOf.refl _) | (with_reducible refine LaterOf.alloc ?_ _) | (with_reducible refine LaterOf.drew ?_) | (with_reducible refine LaterOf.drewN ?_ _) | (with_reducible refine LaterOf.later ?_ _) | (with_reducible refine LaterOf.setCell ?_ (by first | exact Nat.le_refl _ | (simp; done) | omega | (simp; omega)) _)))⟩
      · have hkl : k = R.length := by omega
        rw [hkl, List.drop_length, List.all_nil] at hsz
        have hall : ∀ a (ha : a < R.length), R[a].xs.length = R.length := fun a ha => by
          have := List.all_eq_true.1 hsz R[a] (List.getElem_mem ha)
          simpa using this
        have HZ := Lib.hid (And.intro hsz hall)
        clear hsz hall hkl
        go_wp2_with fail
        go_loopg [52] R.length (fun gas s52 wr => ∃ a : Nat, a ≤ R.length ∧ R.length - a ≤ gas ∧ s52 = .int .i64 a ∧ LaterOf x1.wd wr ∧ setupB R = ((List.range R.length).drop a).all (lineB R))
        case atStart => exact ⟨0, by omega, by omega, rfl, by (repeat (first | (with_reducible exact LaterOf.refl _) | (with_reducible refine LaterOf.alloc ?_ _) | (with_reducible refine LaterOf.drew ?_) | (with_reducible refine LaterOf.drewN ?_ _) | (with_reducible refine LaterOf.later ?_ _) | (with_reducible refine LaterOf.setCell ?_ (by first | exact Nat.le_refl _ | (simp; done) | omega | (simp; omega)) _))), by rw [List.drop_zero]; rfl⟩
        case round =>
          obtain ⟨a, ha, hgas, rfl, ⟨z, rfl⟩, hset⟩ := hrel
          by_cases hlta : a < R.length
          · rw [all_range _ hlta] at hset
            have hc := H.out.of (w' := z.wd) (by (repeat (first | (with_reducible exact SinceOf.refl _) | (with_reducible assumption) | (with_reducible refine SinceOf.alloc ?_ _) | (with_reducible refine SinceOf.drew ?_) | (with_reducible refine SinceOf.drewN ?_ _) | (with_reducible refine SinceOf.later ?_ _) | (with_reducible refine SinceOf.further ?_ _) | (with_reducible refine SinceOf.setCell ?_ (by first | exact Nat.le_refl _ | (simp; done) | omega | (simp; omega)) _))))
            obtain ⟨g, off, rfl, hr⟩ := hc.row.at_ (by omega)
            have hO := hr.there
            have r0 := hr.r0 a hlta
            have hxl := HZ.out.2 a hlta
            have hra := (hc.all _ (List.getElem_mem hlta)).1
            rw [hxl] at r0
            obtain ⟨ga, offa, hAa, hrow⟩ := hra.at_ (by omega)
            rw [hAa] at r0
            generalize R[a].c = ca at *
            have HS := Lib.hid (And.intro hset hrow)
            clear hset hrow hc hr hxl hra hAa
            go_wp2_with fail
            go_loopg [59] R.length (fun gas s59 wr => ∃ cc : Nat, cc ≤ R.length ∧ R.length - cc ≤ gas ∧ s59 = .int .i64 cc ∧ LaterOf z.wd wr ∧ lineB R a = ((List.range R.length).drop cc).all (cellB R a))
            case atStart => exact ⟨0, by omega, by omega, rfl, by (repeat (first | (with_reducible exact LaterOf.refl _) | (with_reducible refine LaterOf.alloc ?_ _) | (with_reducible refine LaterOf.drew ?_) | (with_reducible refine LaterOf.drewN ?_ _) | (with_reducible refine LaterOf.later ?_ _) | (with_reducible refine LaterOf.setCell ?_ (by first | exact Nat.le_refl _ | (simp; done) | omega | (simp; omega)) _))), by rw [List.drop_zero]; rfl⟩
            case round =>
              obtain ⟨cc, hcc, hgas2, rfl, ⟨z2, rfl⟩, hline⟩ := hrel
              by_cases hltc : cc < R.length
              · rw [all_range _ hltc] at hline
                have hxl := HZ.out.2 a hlta
                have hrow2 := HS.out.2.of (w' := z2.wd) (by (repeat (first | (with_reducible exact SinceOf.refl _) | (with_reducible assumption) | (with_reducible refine SinceOf.alloc ?_ _) | (with_reducible refine SinceOf.drew ?_) | (with_reducible refine SinceOf.drewN ?_ _) | (with_reducible refine SinceOf.later ?_ _) | (with_reducible refine SinceOf.further ?_ _) | (with_reducible refine SinceOf.setCell ?_ (by first | exact Nat.le_refl _ | (simp; done) | omega | (simp; omega)) _))))
                have hOa := hrow2.there
                have n0 := hrow2.n0 cc (by omega)
                rw [← get2_at hlta (by omega)] at n0
                have I5 := fun W => in_any (get2 R a cc) 0 1000 W
                have hcell : cellB R a cc = (nearB R a cc && (List.range R.length).all (triB R a cc)) := rfl
                have hnear : nearB R a cc = ((decide (0 ≤ get2 R a cc) && decide (get2 R a cc ≤ 1000)) && !(a == cc && get2 R a cc != 0)) := rfl
                have hnac : get2 R a cc = get2 R a cc := rfl
                generalize hnv : get2 R a cc = nv at n0 I5 hnear
                generalize (decide (0 ≤ nv) && decide (nv ≤ 1000)) = q at *
                have hcase2 : (q = false ∧ nearB R a cc = false) ∨ (q = true ∧ ((a : Int) == (cc : Int)) = true ∧ (nv != 0) = true ∧ nearB R a cc = false) ∨ (q = true ∧ ((a : Int) == (cc : Int)) = true ∧ (nv != 0) = false ∧ nearB R a cc = true) ∨ (q = true ∧ ((a : Int) == (cc : Int)) = false ∧ nearB R a cc = true) := by
                  cases q
                  · exact .inl ⟨rfl, by rw [hnear]; rfl⟩
                  · by_cases hac : a = cc
                    · have e1 : ((a : Int) == (cc : Int)) = true := by simp; omega
                      have e2 : (a == cc) = true := by simpa using hac
                      rw [e2] at hnear
                      cases hn0 : (nv != 0)
                      · exact .inr (.inr (.inl ⟨rfl, e1, rfl, by rw [hnear, hn0]; rfl⟩))
                      · exact .inr (.inl ⟨rfl, e1, rfl, by rw [hnear, hn0]; rfl⟩)
                    · have e1 : ((a : Int) == (cc : Int)) = false := by simp; omega
                      have e2 : (a == cc) = false := by simpa using hac
                      rw [e2] at hnear
                      exact .inr (.inr (.inr ⟨rfl, e1, by rw [hnear]; rfl⟩))
                have HN := Lib.hid hnv
                clear hnear hnac hnv hxl
                have hfalse : nearB R a cc = false → setupB R = false := fun e => by rw [HS.out.1, hline, hcell, e]; rfl
                have HF := Lib.hid hfalse
                have HL := Lib.hid (And.intro hline (And.intro hcell hrow2))
                clear hfalse hline hcell hrow2
                rcases hcase2 with ⟨rfl, e⟩ | ⟨rfl, t1, t2, e⟩ | hcase2
                · go_wp2_with fail
                  refine (I5 _).mono ?_
                  rintro e w' ⟨rfl, rfl⟩
                  go_wp2_with fail
                  go_returns
                  exact ⟨by rw [HZ.out.1, HF.out (by assumption)]; rfl, by (repeat (first | (with_reducible exact LaterOf.refl _) | (with_reducible refine LaterOf.alloc ?_ _) | (with_reducible refine LaterOf.drew ?_) | (with_reducible refine LaterOf.drewN ?_ _) | (with_reducible refine LaterOf.later ?_ _) | (with_reducible refine LaterOf.setCell ?_ (by first | exact Nat.le_refl _ | (simp; done) | omega | (simp; omega)) _)))⟩
                · go_wp2_with fail
                  refine (I5 _).mono ?_
                  rintro e w' ⟨rfl, rfl⟩
                  go_wp2_with fail
                  go_returns
                  exact ⟨by rw [HZ.out.1, HF.out (by assumption)]; rfl, by (repeat (first | (with_reducible exact LaterOf.refl _) | (with_reducible refine LaterOf.alloc ?_ _) | (with_reducible refine LaterOf.drew ?_) | (with_reducible refine LaterOf.drewN ?_ _) | (with_reducible refine LaterOf.later ?_ _) | (with_reducible refine LaterOf.setCell ?_ (by first | exact Nat.le_refl _ | (simp; done) | omega | (simp; omega)) _)))⟩
                · rcases hcase2 with ⟨rfl, t1, t2, e⟩ | ⟨rfl, t1, e⟩
                  all_goals
                    have HE := Lib.hid e
                    clear e
                    go_wp2_with fail
                    refine (I5 _).mono ?_
                    rintro e w' ⟨rfl, rfl⟩
                    go_wp2_with fail
                    go_loopg [78] R.length (fun gas s78 wr => ∃ b : Nat, b ≤ R.length ∧ R.length - b ≤ gas ∧ s78 = .int .i64 b ∧ LaterOf z2.wd wr ∧ (List.range R.length).all (triB R a cc) = ((List.range R.length).drop b).all (triB R a cc))
                    case atStart => exact ⟨0, by omega, by omega, rfl, by (repeat (first | (with_reducible exact LaterOf.refl _) | (with_reducible refine LaterOf.alloc ?_ _) | (with_reducible refine LaterOf.drew ?_) | (with_reducible refine LaterOf.drewN ?_ _) | (with_reducible refine LaterOf.later ?_ _) | (with_reducible refine LaterOf.setCell ?_ (by first | exact Nat.le_refl _ | (simp; done) | omega | (simp; omega)) _))), by rw [List.drop_zero]⟩
                    case round =>
                      obtain ⟨b, hb, hgas3, rfl, ⟨z3, rfl⟩, htri⟩ := hrel
                      by_cases hltb : b < R.length
                      · rw [all_range _ hltb] at htri
                        have hxl := HZ.out.2 a hlta
                        have hxb := HZ.out.2 b hltb
                        have hrow3 := HL.out.2.2.of (w' := z3.wd) (by (repeat (first | (with_reducible exact SinceOf.refl _) | (with_reducible assumption) | (with_reducible refine SinceOf.alloc ?_ _) | (with_reducible refine SinceOf.drew ?_) | (with_reducible refine SinceOf.drewN ?_ _) | (with_reducible refine SinceOf.later ?_ _) | (with_reducible refine SinceOf.further ?_ _) | (with_reducible refine SinceOf.setCell ?_ (by first | exact Nat.le_refl _ | (simp; done) | omega | (simp; omega)) _))))
                        have m0 := hrow3.n0 b (by omega)
                        rw [← get2_at hlta (by omega)] at m0
                        have hOa3 := hrow3.there
                        have hc3 := H.out.of (w' := z3.wd) (by (repeat (first | (with_reducible exact SinceOf.refl _) | (with_reducible assumption) | (with_reducible refine SinceOf.alloc ?_ _) | (with_reducible refine SinceOf.drew ?_) | (with_reducible refine SinceOf.drewN ?_ _) | (with_reducible refine SinceOf.later ?_ _) | (with_reducible refine SinceOf.further ?_ _) | (with_reducible refine SinceOf.setCell ?_ (by first | exact Nat.le_refl _ | (simp; done) | omega | (simp; omega)) _))))
                        have hrb := (hc3.all _ (List.getElem_mem hltb)).1
                        obtain ⟨g4, off4, hA4, hr4⟩ := hc3.row.at_ (by omega)
                        injection hA4 with hA4
                        injection hA4 with hg4 ho4
                        subst hg4 ho4
                        have hO4 := hr4.there
                        have r4 := hr4.r0 b hltb
                        obtain ⟨gb, offb, hAb, hrowb⟩ := hrb.at_ (by omega)
                        have hOb := hrowb.there
                        have l0 := hrowb.n0 cc (by omega)
                        rw [← get2_at hltb (by omega)] at l0
                        rw [hAb, hxb] at r4
                        have htr : triB R a cc b = decide (get2 R a cc ≤ wadd (get2 R a b) (get2 R b cc)) := rfl
                        rw [HN.out] at htr
                        generalize get2 R a b = u1 at *
                        generalize get2 R b cc = u2 at *
                        generalize R[b].c = cb at *
                        unfold wadd at htr
                        by_cases hle : nv ≤ wrap64 (u1 + u2)
                        · have hd : decide (wrap64 (u1 + u2) < nv) = false := by simp; omega
                          rw [htr, show decide (nv ≤ wrap64 (u1 + u2)) = true from by simpa using hle, Bool.true_and] at htri
                          have HT := Lib.hid htri
                          clear htri htr hle hxl hxb hrow3 hc3 hrb hr4 hAb hrowb
                          go_wp2_with fail
                          refine region_later (by kernel_rfl) (by kernel_rfl) ?_
                          repeat (go_big_quiet_step (fail))
                          refine wpQuiet_nil ?_
                          rintro _ ⟨z4, rfl⟩
                          go_wp2_with fail
                          go_roundg (R.length - (b + 1))
                          case measure => omega
                          case rel => exact ⟨b + 1, hltb, Nat.le_refl _, by go_num, by (repeat (first | (with_reducible exact LaterOf.refl _) | (with_reducible refine LaterOf.alloc ?_ _) | (with_reducible refine LaterOf.drew ?_) | (with_reducible refine LaterOf.drewN ?_ _) | (with_reducible refine LaterOf.later ?_ _) | (with_reducible refine LaterOf.setCell ?_ (by first | exact Nat.le_refl _ | (simp; done) | omega | (simp; omega)) _))), HT.out⟩
                        · have hd : decide (wrap64 (u1 + u2) < nv) = true := by simp; omega
                          rw [htr, show decide (nv ≤ wrap64 (u1 + u2)) = false from by simpa using hle, Bool.false_and] at htri
                          have hfin : setupB R = false := by rw [HS.out.1, HL.out.1, HL.out.2.1, htri, Bool.and_false, Bool.false_and, Bool.false_and]
                          have HT := Lib.hid hfin
                          clear htri htr hle hxl hxb hrow3 hc3 hrb hr4 hAb hrowb hfin
                          go_wp2_with fail
                          refine region_later (by kernel_rfl) (by kernel_rfl) ?_
                          repeat (go_big_quiet_step (fail))
                          refine wpQuiet_nil ?_
                          rintro _ ⟨z4, rfl⟩
                          go_wp2_with fail
                          go_returns
                          exact ⟨by rw [HZ.out.1, HT.out]; rfl, by (repeat (first | (with_reducible exact LaterOf.refl _) | (with_reducible refine LaterOf.alloc ?_ _) | (with_reducible refine LaterOf.drew ?_) | (with_reducible refine LaterOf.drewN ?_ _) | (with_reducible refine LaterOf.later ?_ _) | (with_reducible refine LaterOf.setCell ?_ (by first | exact Nat.le_refl _ | (simp; done) | omega | (simp; omega)) _)))⟩
                      · have hbl : b = R.length := by omega
                        rw [hbl, all_range_end] at htri
                        have HT := Lib.hid htri
                        clear htri hbl
                        go_wp2_with fail
                        go_roundg (R.length - (cc + 1))
                        case measure => omega
                        case rel => exact ⟨cc + 1, hltc, Nat.le_refl _, by go_num, by (repeat (first | (with_reducible exact LaterOf.refl _) | (with_reducible refine LaterOf.alloc ?_ _) | (with_reducible refine LaterOf.drew ?_) | (with_reducible refine LaterOf.drewN ?_ _) | (with_reducible refine LaterOf.later ?_ _) | (with_reducible refine LaterOf.setCell ?_ (by first | exact Nat.le_refl _ | (simp; done) | omega | (simp; omega)) _))), by rw [HL.out.1, HL.out.2.1, HE.out, HT.out, Bool.true_and, Bool.true_and]⟩
              · have hcl2 : cc = R.length := by omega
                rw [hcl2, all_range_end] at hline
                have HL := Lib.hid hline
                clear hline hcl2
                go_wp2_with fail
                go_roundg (R.length - (a + 1))
                case measure => omega
                case rel => exact ⟨a + 1, hlta, Nat.le_refl _, by go_num, by (repeat (first | (with_reducible exact LaterOf.refl _) | (with_reducible refine LaterOf.alloc ?_ _) | (with_reducible refine LaterOf.drew ?_) | (with_reducible refine LaterOf.drewN ?_ _) | (with_reducible refine LaterOf.later ?_ _) | (with_reducible refine LaterOf.setCell ?_ (by first | exact Nat.le_refl _ | (simp; done) | omega | (simp; omega)) _))), by rw [HS.out.1, HL.out, Bool.true_and]⟩
          · have hal : a = R.length := by omega
            rw [hal, all_range_end] at hset
            have HS := Lib.hid hset
            clear hset hal
            go_wp2_with fail
            go_returns
            exact ⟨by rw [HZ.out.1, HS.out]; rfl, by (repeat (first | (with_reducible exact LaterOf.refl _) | (with_reducible refine LaterOf.alloc ?_ _) | (with_reducible refine LaterOf.drew ?_) | (with_reducible refine LaterOf.drewN ?_ _) | (with_reducible refine LaterOf.later ?_ _) | (with_reducible refine LaterOf.setCell ?_ (by first | exact Nat.le_refl _ | (simp; done) | omega | (simp; omega)) _)))⟩
end Go.Proofs.Ytdcncalcncomoaa
