/- Layer 10: the walk of HullLeast. -/
import Derived.Test.YticmfmcflikneaaHull26
namespace Go.Proofs.Yticmfmcflikneaa
open Go.RowKit Go.Sort
set_option linter.unusedVariables false
set_option linter.unusedSimpArgs false
attribute [local go_sem ↓] Go.wp_at_zero Go.wp_at_succ

theorem all_dropV (p : Int × Int → Bool) {l : List (Int × Int)} {k : Nat} (h : k < l.length) : (l.drop k).all p = (p l[k] && (l.drop (k + 1)).all p) := by
  rw [List.drop_eq_getElem_cons h, List.all_cons]
def inS (s : List Pt) (p : Pt) : Bool := whereV s p != 0
theorem hull_all {l r s : List Pt} (hf : l.any farB = false) (h : IsHull l r) (hs : convexB s = true) : l.all (inS s) = r.all (inS s) := by
  rw [Bool.eq_iff_iff, List.all_eq_true, List.all_eq_true]
  constructor
  · exact fun k p hp => k p (h.sub p hp)
  · intro k p hp
    unfold inS
    rw [bne_iff_ne]
    refine (where_out hs p).2 ⟨far_false hf hp, fun i hi => h.side _ _ (fun v hv => ?_) p hp⟩
    have := k v hv
    unfold inS at this
    rw [bne_iff_ne] at this
    exact ((where_out hs v).1 this).2 i hi
set_option maxRecDepth 100000 in
set_option maxHeartbeats 8000000 in
theorem hullLeast_any (A B : Option Addr) (c d : Nat) (l m : List (Int × Int)) (w : World) (h : IsVecs w A c l) (k : IsVecs w B d m) (hlen : l.length < 4611686018427387904) (hlen2 : m.length < 4611686018427387904) :
    Yields Try.prog 9 #[.slice A l.length c, .slice B m.length d] w (.bool true) := by
  apply Yields.ret
  have H := Lib.hid (And.intro h k)
  clear h k
  have S1 := fun W (hW : SinceOf w W) => small10_any A c l W (H.out.1.of hW) hlen
  have S2 := fun W (hW : SinceOf w W) => small10_any B d m W (H.out.2.of hW) hlen2
  by_cases hs : smallB l = true ∧ smallB m = true
  case neg =>
    have hs' : smallB l = false ∨ (smallB l = true ∧ smallB m = false) := by
      cases h1 : smallB l
      · exact .inl rfl
      · cases h2 : smallB m
        · exact .inr ⟨rfl, rfl⟩
        · exact absurd ⟨h1, h2⟩ hs
    clear hs
    rcases hs' with h1 | ⟨h1, h2⟩
    · rw [h1] at S1
      clear S2
      go_enter Try.func9, Try.ntmps9
      go_wp2_with fail
      refine (awake10_any _).calls.mono ?_
      rintro e _ ⟨rfl, x1, rfl⟩
      go_wp2_with fail
      refine (S1 _ (by (repeat (first | (with_reducible exact SinceOf.refl _) | (with_reducible assumption) | (with_reducible refine SinceOf.alloc ?_ _) | (with_reducible refine SinceOf.drew ?_) | (with_reducible refine SinceOf.drewN ?_ _) | (with_reducible refine SinceOf.later ?_ _) | (with_reducible refine SinceOf.further ?_ _) | (with_reducible refine SinceOf.setCell ?_ (by first | exact Nat.le_refl _ | (simp; done) | omega | (simp; omega)) _))))).calls.mono ?_
      rintro e _ ⟨rfl, x2, rfl⟩
      go_wp2_with fail
      go_returns
      exact ⟨rfl, by (repeat (first | (with_reducible exact SinceOf.refl _) | (with_reducible assumption) | (with_reducible refine SinceOf.alloc ?_ _) | (with_reducible refine SinceOf.drew ?_) | (with_reducible refine SinceOf.drewN ?_ _) | (with_reducible refine SinceOf.later ?_ _) | (with_reducible refine SinceOf.further ?_ _) | (with_reducible refine SinceOf.setCell ?_ (by first | exact Nat.le_refl _ | (simp; done) | omega | (simp; omega)) _)))⟩
    · rw [h1] at S1
      rw [h2] at S2
      go_enter Try.func9, Try.ntmps9
      go_wp2_with fail
      refine (awake10_any _).calls.mono ?_
      rintro e _ ⟨rfl, x1, rfl⟩
      go_wp2_with fail
      refine (S1 _ (by (repeat (first | (with_reducible exact SinceOf.refl _) | (with_reducible assumption) | (with_reducible refine SinceOf.alloc ?_ _) | (with_reducible refine SinceOf.drew ?_) | (with_reducible refine SinceOf.drewN ?_ _) | (with_reducible refine SinceOf.later ?_ _) | (with_reducible refine SinceOf.further ?_ _) | (with_reducible refine SinceOf.setCell ?_ (by first | exact Nat.le_refl _ | (simp; done) | omega | (simp; omega)) _))))).calls.mono ?_
      rintro e _ ⟨rfl, x2, rfl⟩
      go_wp2_with fail
      refine (S2 _ (by (repeat (first | (with_reducible exact SinceOf.refl _) | (with_reducible assumption) | (with_reducible refine SinceOf.alloc ?_ _) | (with_reducible refine SinceOf.drew ?_) | (with_reducible refine SinceOf.drewN ?_ _) | (with_reducible refine SinceOf.later ?_ _) | (with_reducible refine SinceOf.further ?_ _) | (with_reducible refine SinceOf.setCell ?_ (by first | exact Nat.le_refl _ | (simp; done) | omega | (simp; omega)) _))))).calls.mono ?_
      rintro e _ ⟨rfl, x3, rfl⟩
      go_wp2_with fail
      go_returns
      exact ⟨rfl, by (repeat (first | (with_reducible exact SinceOf.refl _) | (with_reducible assumption) | (with_reducible refine SinceOf.alloc ?_ _) | (with_reducible refine SinceOf.drew ?_) | (with_reducible refine SinceOf.drewN ?_ _) | (with_reducible refine SinceOf.later ?_ _) | (with_reducible refine SinceOf.further ?_ _) | (with_reducible refine SinceOf.setCell ?_ (by first | exact Nat.le_refl _ | (simp; done) | omega | (simp; omega)) _)))⟩
  rw [hs.1] at S1
  rw [hs.2] at S2
  obtain ⟨hf, h30⟩ := smallB_far hs.1
  obtain ⟨hf2, h302⟩ := smallB_far hs.2
  have HF := Lib.hid (And.intro hs (And.intro hf hf2))
  clear hs hf hf2
  go_enter Try.func9, Try.ntmps9
  go_wp2_with fail
  refine (awake10_any _).calls.mono ?_
  rintro e _ ⟨rfl, x1, rfl⟩
  go_wp2_with fail
  refine (S1 _ (by (repeat (first | (with_reducible exact SinceOf.refl _) | (with_reducible assumption) | (with_reducible refine SinceOf.alloc ?_ _) | (with_reducible refine SinceOf.drew ?_) | (with_reducible refine SinceOf.drewN ?_ _) | (with_reducible refine SinceOf.later ?_ _) | (with_reducible refine SinceOf.further ?_ _) | (with_reducible refine SinceOf.setCell ?_ (by first | exact Nat.le_refl _ | (simp; done) | omega | (simp; omega)) _))))).calls.mono ?_
  rintro e _ ⟨rfl, x2, rfl⟩
  clear S1
  go_wp2_with fail
  refine (S2 _ (by (repeat (first | (with_reducible exact SinceOf.refl _) | (with_reducible assumption) | (with_reducible refine SinceOf.alloc ?_ _) | (with_reducible refine SinceOf.drew ?_) | (with_reducible refine SinceOf.drewN ?_ _) | (with_reducible refine SinceOf.later ?_ _) | (with_reducible refine SinceOf.further ?_ _) | (with_reducible refine SinceOf.setCell ?_ (by first | exact Nat.le_refl _ | (simp; done) | omega | (simp; omega)) _))))).calls.mono ?_
  rintro e _ ⟨rfl, x3, rfl⟩
  clear S2
  go_wp2_with fail
  refine (hull_any A c l _ (H.out.1.of (by (repeat (first | (with_reducible exact SinceOf.refl _) | (with_reducible assumption) | (with_reducible refine SinceOf.alloc ?_ _) | (with_reducible refine SinceOf.drew ?_) | (with_reducible refine SinceOf.drewN ?_ _) | (with_reducible refine SinceOf.later ?_ _) | (with_reducible refine SinceOf.further ?_ _) | (with_reducible refine SinceOf.setCell ?_ (by first | exact Nat.le_refl _ | (simp; done) | omega | (simp; omega)) _))))) (by omega)).mono ?_
  rintro e _ ⟨A3, c3, r, er, rfl, hv3, hr3, ⟨x4, rfl⟩⟩
  go_wp2_with fail
  refine (hull_any B d m _ (H.out.2.of (by (repeat (first | (with_reducible exact SinceOf.refl _) | (with_reducible assumption) | (with_reducible refine SinceOf.alloc ?_ _) | (with_reducible refine SinceOf.drew ?_) | (with_reducible refine SinceOf.drewN ?_ _) | (with_reducible refine SinceOf.later ?_ _) | (with_reducible refine SinceOf.further ?_ _) | (with_reducible refine SinceOf.setCell ?_ (by first | exact Nat.le_refl _ | (simp; done) | omega | (simp; omega)) _))))) (by omega)).mono ?_
  rintro e _ ⟨A4, c4, s, es, rfl, hv4, hr4, ⟨x5, rfl⟩⟩
  have hv3' : IsVecs x5.wd A3 c3 r := hv3.of (by (repeat (first | (with_reducible exact SinceOf.refl _) | (with_reducible assumption) | (with_reducible refine SinceOf.alloc ?_ _) | (with_reducible refine SinceOf.drew ?_) | (with_reducible refine SinceOf.drewN ?_ _) | (with_reducible refine SinceOf.later ?_ _) | (with_reducible refine SinceOf.further ?_ _) | (with_reducible refine SinceOf.setCell ?_ (by first | exact Nat.le_refl _ | (simp; done) | omega | (simp; omega)) _))))
  have hs3 : SinceOf w x5.wd := by (repeat (first | (with_reducible exact SinceOf.refl _) | (with_reducible assumption) | (with_reducible refine SinceOf.alloc ?_ _) | (with_reducible refine SinceOf.drew ?_) | (with_reducible refine SinceOf.drewN ?_ _) | (with_reducible refine SinceOf.later ?_ _) | (with_reducible refine SinceOf.further ?_ _) | (with_reducible refine SinceOf.setCell ?_ (by first | exact Nat.le_refl _ | (simp; done) | omega | (simp; omega)) _)))
  obtain ⟨u3, hu3⟩ := hs3
  rw [hu3] at hv3' hv4 ⊢
  clear hu3 hv3 x5 x4 x3 x2 x1
  have K1 := hr3.small HF.out.1.1
  have K2 := hr4.small HF.out.1.2
  clear hr3 hr4
  by_cases e1 : er = 0
  case neg =>
    have g1 : (er != 0) = true := by simpa using e1
    clear K1 K2 e1
    go_wp2_with fail
    go_returns
    exact ⟨rfl, by (repeat (first | (with_reducible exact SinceOf.refl _) | (with_reducible assumption) | (with_reducible refine SinceOf.alloc ?_ _) | (with_reducible refine SinceOf.drew ?_) | (with_reducible refine SinceOf.drewN ?_ _) | (with_reducible refine SinceOf.later ?_ _) | (with_reducible refine SinceOf.further ?_ _) | (with_reducible refine SinceOf.setCell ?_ (by first | exact Nat.le_refl _ | (simp; done) | omega | (simp; omega)) _)))⟩
  subst e1
  by_cases e2 : es = 0
  case neg =>
    have g1 : (es != 0) = true := by simpa using e2
    clear K1 K2 e2
    go_wp2_with fail
    go_returns
    exact ⟨rfl, by (repeat (first | (with_reducible exact SinceOf.refl _) | (with_reducible assumption) | (with_reducible refine SinceOf.alloc ?_ _) | (with_reducible refine SinceOf.drew ?_) | (with_reducible refine SinceOf.drewN ?_ _) | (with_reducible refine SinceOf.later ?_ _) | (with_reducible refine SinceOf.further ?_ _) | (with_reducible refine SinceOf.setCell ?_ (by first | exact Nat.le_refl _ | (simp; done) | omega | (simp; omega)) _)))⟩
  subst e2
  obtain ⟨hy, hrl⟩ : HullY l r ∧ r.length ≤ l.length := by
    rcases K1 with ⟨h, -⟩ | ⟨-, h⟩
    · omega
    · exact h
  obtain ⟨hy2, hsl⟩ : HullY m s ∧ s.length ≤ m.length := by
    rcases K2 with ⟨h, -⟩ | ⟨-, h⟩
    · omega
    · exact h
  have hcs := hull_convexB HF.out.2.2 hy2.hull (by omega)
  have hall := hull_all HF.out.2.1 hy.hull hcs
  have P := fun x W (hW : SinceOf u3.wd W) => where_any A4 c4 s (Prod.fst x) (Prod.snd x) W (hv4.of hW) (by omega)
  have HR := Lib.hid (And.intro hall hv3')
  have HP := Lib.hid P
  clear K1 K2 hy hy2 hcs hall hv3' hv4 P
  go_wp2_with fail
  go_loopg [9, 10] l.length (fun gas s9 s10 wr => ∃ (i : Nat) (b : Bool), i ≤ l.length ∧ l.length - i ≤ gas ∧ s9 = .bool b ∧ s10 = .int .i64 i ∧ LaterOf u3.wd wr ∧ l.all (inS s) = (b && (l.drop i).all (inS s)))
  case atStart => exact ⟨0, true, by omega, by omega, rfl, rfl, by (repeat (first | (with_reducible exact LaterOf.refl _) | (with_reducible refine LaterOf.alloc ?_ _) | (with_reducible refine LaterOf.drew ?_) | (with_reducible refine LaterOf.drewN ?_ _) | (with_reducible refine LaterOf.later ?_ _) | (with_reducible refine LaterOf.setCell ?_ (by first | exact Nat.le_refl _ | (simp; done) | omega | (simp; omega)) _))), by simp⟩
  case round =>
    obtain ⟨i, b, hi, hgas, rfl, rfl, ⟨z, rfl⟩, hb⟩ := hrel
    by_cases hlt : i < l.length
    · have hr0 := H.out.1.of (w' := z.wd) (by (repeat (first | (with_reducible exact SinceOf.refl _) | (with_reducible assumption) | (with_reducible refine SinceOf.alloc ?_ _) | (with_reducible refine SinceOf.drew ?_) | (with_reducible refine SinceOf.drewN ?_ _) | (with_reducible refine SinceOf.later ?_ _) | (with_reducible refine SinceOf.further ?_ _) | (with_reducible refine SinceOf.setCell ?_ (by first | exact Nat.le_refl _ | (simp; done) | omega | (simp; omega)) _))))
      obtain ⟨g, off, rfl, hr⟩ := hr0.at_ (by omega)
      have hO := hr.there
      have p0 := hr.v0 i hlt
      have p1 := hr.v1 i hlt
      have P := HP.out l[i]
      rw [all_dropV _ hlt] at hb
      have hin : inS s l[i] = (whereV s (l[i].1, l[i].2) != 0) := rfl
      generalize whereV s (l[i].1, l[i].2) = t at *
      generalize l[i] = p at *
      rw [hin] at hb
      generalize hbt : (t != 0) = bt at *
      obtain ⟨px, py⟩ := p
      simp only at p0 p1 P
      clear hr hr0 hin
      cases b
      · have HB := Lib.hid hb
        clear hb P hbt
        go_wp2_with fail
        go_roundg (l.length - (i + 1))
        case measure => omega
        case rel => exact ⟨i + 1, false, hlt, Nat.le_refl _, rfl, by go_num, by (repeat (first | (with_reducible exact LaterOf.refl _) | (with_reducible refine LaterOf.alloc ?_ _) | (with_reducible refine LaterOf.drew ?_) | (with_reducible refine LaterOf.drewN ?_ _) | (with_reducible refine LaterOf.later ?_ _) | (with_reducible refine LaterOf.setCell ?_ (by first | exact Nat.le_refl _ | (simp; done) | omega | (simp; omega)) _))), by rw [HB.out]; simp⟩
      · have HB := Lib.hid hb
        clear hb
        go_wp2_with fail
        refine (P _ (by (repeat (first | (with_reducible exact SinceOf.refl _) | (with_reducible assumption) | (with_reducible refine SinceOf.alloc ?_ _) | (with_reducible refine SinceOf.drew ?_) | (with_reducible refine SinceOf.drewN ?_ _) | (with_reducible refine SinceOf.later ?_ _) | (with_reducible refine SinceOf.further ?_ _) | (with_reducible refine SinceOf.setCell ?_ (by first | exact Nat.le_refl _ | (simp; done) | omega | (simp; omega)) _))))).calls.mono ?_
        rintro e _ ⟨rfl, z4, rfl⟩
        go_wp2_with fail
        go_roundg (l.length - (i + 1))
        case measure => omega
        case rel => exact ⟨i + 1, bt, hlt, Nat.le_refl _, by first | rfl | (rw [← hbt]; rfl) | simp [hbt], by go_num, by (repeat (first | (with_reducible exact LaterOf.refl _) | (with_reducible refine LaterOf.alloc ?_ _) | (with_reducible refine LaterOf.drew ?_) | (with_reducible refine LaterOf.drewN ?_ _) | (with_reducible refine LaterOf.later ?_ _) | (with_reducible refine LaterOf.setCell ?_ (by first | exact Nat.le_refl _ | (simp; done) | omega | (simp; omega)) _))), by rw [HB.out]; simp⟩
    · rw [show i = l.length by omega, List.drop_length] at hb
      have hb' : b = l.all (inS s) := by rw [hb]; simp
      have HB := Lib.hid hb'
      clear hb hb'
      go_wp2_with fail
      go_loopg [11, 12] r.length (fun gas s9 s10 wr => ∃ (i : Nat) (b : Bool), i ≤ r.length ∧ r.length - i ≤ gas ∧ s9 = .bool b ∧ s10 = .int .i64 i ∧ LaterOf u3.wd wr ∧ r.all (inS s) = (b && (r.drop i).all (inS s)))
      case atStart => exact ⟨0, true, by omega, by omega, rfl, rfl, by (repeat (first | (with_reducible exact LaterOf.refl _) | (with_reducible refine LaterOf.alloc ?_ _) | (with_reducible refine LaterOf.drew ?_) | (with_reducible refine LaterOf.drewN ?_ _) | (with_reducible refine LaterOf.later ?_ _) | (with_reducible refine LaterOf.setCell ?_ (by first | exact Nat.le_refl _ | (simp; done) | omega | (simp; omega)) _))), by simp⟩
      case round =>
        obtain ⟨k, b2, hk, hgas, rfl, rfl, ⟨z2, rfl⟩, hb⟩ := hrel
        by_cases hkl : k < r.length
        · have hr0 := HR.out.2.of (w' := z2.wd) (by (repeat (first | (with_reducible exact SinceOf.refl _) | (with_reducible assumption) | (with_reducible refine SinceOf.alloc ?_ _) | (with_reducible refine SinceOf.drew ?_) | (with_reducible refine SinceOf.drewN ?_ _) | (with_reducible refine SinceOf.later ?_ _) | (with_reducible refine SinceOf.further ?_ _) | (with_reducible refine SinceOf.setCell ?_ (by first | exact Nat.le_refl _ | (simp; done) | omega | (simp; omega)) _))))
          obtain ⟨g, off, rfl, hr⟩ := hr0.at_ (by omega)
          have hO := hr.there
          have p0 := hr.v0 k hkl
          have p1 := hr.v1 k hkl
          have P := HP.out r[k]
          rw [all_dropV _ hkl] at hb
          have hin : inS s r[k] = (whereV s (r[k].1, r[k].2) != 0) := rfl
          generalize whereV s (r[k].1, r[k].2) = t at *
          generalize r[k] = p at *
          rw [hin] at hb
          generalize hbt : (t != 0) = bt at *
          obtain ⟨px, py⟩ := p
          simp only at p0 p1 P
          clear hr hr0 hin
          cases b2
          · have HB2 := Lib.hid hb
            clear hb P hbt
            go_wp2_with fail
            go_roundg (r.length - (k + 1))
            case measure => omega
            case rel => exact ⟨k + 1, false, hkl, Nat.le_refl _, rfl, by go_num, by (repeat (first | (with_reducible exact LaterOf.refl _) | (with_reducible refine LaterOf.alloc ?_ _) | (with_reducible refine LaterOf.drew ?_) | (with_reducible refine LaterOf.drewN ?_ _) | (with_reducible refine LaterOf.later ?_ _) | (with_reducible refine LaterOf.setCell ?_ (by first | exact Nat.le_refl _ | (simp; done) | omega | (simp; omega)) _))), by rw [HB2.out]; simp⟩
          · have HB2 := Lib.hid hb
            clear hb
            go_wp2_with fail
            refine (P _ (by (repeat (first | (with_reducible exact SinceOf.refl _) | (with_reducible assumption) | (with_reducible refine SinceOf.alloc ?_ _) | (with_reducible refine SinceOf.drew ?_) | (with_reducible refine SinceOf.drewN ?_ _) | (with_reducible refine SinceOf.later ?_ _) | (with_reducible refine SinceOf.further ?_ _) | (with_reducible refine SinceOf.setCell ?_ (by first | exact Nat.le_refl _ | (simp; done) | omega | (simp; omega)) _))))).calls.mono ?_
            rintro e _ ⟨rfl, z4, rfl⟩
            go_wp2_with fail
            go_roundg (r.length - (k + 1))
            case measure => omega
            case rel => exact ⟨k + 1, bt, hkl, Nat.le_refl _, by first | rfl | (rw [← hbt]; rfl) | simp [hbt], by go_num, by (repeat (first | (with_reducible exact LaterOf.refl _) | (with_reducible refine LaterOf.alloc ?_ _) | (with_reducible refine LaterOf.drew ?_) | (with_reducible refine LaterOf.drewN ?_ _) | (with_reducible refine LaterOf.later ?_ _) | (with_reducible refine LaterOf.setCell ?_ (by first | exact Nat.le_refl _ | (simp; done) | omega | (simp; omega)) _))), by rw [HB2.out]; simp⟩
        · rw [show k = r.length by omega, List.drop_length] at hb
          have hb2 : b2 = b := by rw [HB.out, HR.out.1, hb]; simp
          subst hb2
          clear hb
          go_wp2_with fail
          go_returns
          refine ⟨?_, by (repeat (first | (with_reducible exact SinceOf.refl _) | (with_reducible assumption) | (with_reducible refine SinceOf.alloc ?_ _) | (with_reducible refine SinceOf.drew ?_) | (with_reducible refine SinceOf.drewN ?_ _) | (with_reducible refine SinceOf.later ?_ _) | (with_reducible refine SinceOf.further ?_ _) | (with_reducible refine SinceOf.setCell ?_ (by first | exact Nat.le_refl _ | (simp; done) | omega | (simp; omega)) _)))⟩
          simp
end Go.Proofs.Yticmfmcflikneaa
