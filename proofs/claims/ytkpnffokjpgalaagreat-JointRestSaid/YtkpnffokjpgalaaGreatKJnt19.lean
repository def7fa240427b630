/- Layer 46: Length of the program and of the reference; Share of the reference of layer 7. -/
import Derived.Test.YtkpnffokjpgalaaGreatKJnt16
namespace Go.Proofs.YtkpnffokjpgalaaGreat
set_option linter.unusedVariables false
set_option linter.unusedSimpArgs false
open Go.RowKit Go.Sort
attribute [local go_sem ↓] Go.wp_at_zero Go.wp_at_succ

def normE (s : SegP) : Int := imax (iabs (wsub s.2.1 s.1.1)) (iabs (wsub s.2.2 s.1.2))
def lenE (l : List SegP) : Int := l.foldl (fun n s => wadd n (normE s)) 0
theorem lenE_succ {l : List SegP} {i : Nat} (h : i < l.length) : lenE (l.take (i + 1)) = wadd (lenE (l.take i)) (normE l[i]) := by
  unfold lenE
  rw [List.take_succ_eq_append_getElem h, List.foldl_append]
  rfl
set_option maxRecDepth 100000 in
set_option maxHeartbeats 8000000 in
theorem length_any (A : Option Addr) (c : Nat) (l : List SegP) (w : World) (h : IsSegs w A c l) (hlen : l.length < 4611686018427387904) :
    Gives Tryz.prog 18 #[.slice A l.length c] w (.int .i64 (lenE l)) := by
  apply Gives.ret
  have H := Lib.hid h
  clear h
  go_enter Tryz.func18, Tryz.ntmps18
  go_wp2_with fail
  go_loopg [3, 8] l.length (fun gas s3 s8 wr => ∃ (i : Nat) (n : Int), i ≤ l.length ∧ l.length - i ≤ gas ∧ s3 = .int .i64 n ∧ n = lenE (l.take i) ∧ s8 = .int .i64 i ∧ LaterOf w wr)
  case atStart => exact ⟨0, 0, by omega, by omega, rfl, rfl, rfl, by (repeat (first | (with_reducible exact LaterOf.refl _) | (with_reducible refine LaterOf.alloc ?_ _) | (with_reducible refine LaterOf.drew ?_) | (with_reducible refine LaterOf.drewN ?_ _) | (with_reducible refine LaterOf.later ?_ _) | (with_reducible refine LaterOf.setCell ?_ (by first | exact Nat.le_refl _ | (simp; done) | omega | (simp; omega)) _)))⟩
  case round =>
    obtain ⟨i, n, hi, hgas, rfl, hn, rfl, ⟨z, rfl⟩⟩ := hrel
    by_cases hlt : i < l.length
    · have hr0 := H.out.of (w' := z.wd) (by (repeat (first | (with_reducible exact SinceOf.refl _) | (with_reducible assumption) | (with_reducible refine SinceOf.alloc ?_ _) | (with_reducible refine SinceOf.drew ?_) | (with_reducible refine SinceOf.drewN ?_ _) | (with_reducible refine SinceOf.later ?_ _) | (with_reducible refine SinceOf.further ?_ _) | (with_reducible refine SinceOf.setCell ?_ (by first | exact Nat.le_refl _ | (simp; done) | omega | (simp; omega)) _))))
      obtain ⟨g, off, rfl, hr⟩ := hr0.at_ (by omega)
      have hO := hr.there
      have a0 := hr.e0 i hlt
      have a1 := hr.e1 i hlt
      have a2 := hr.e2 i hlt
      have a3 := hr.e3 i hlt
      have S1 := sub_any l[i].2.1 l[i].2.2 l[i].1.1 l[i].1.2
      have M1 := maxNorm_any (wsub l[i].2.1 l[i].1.1) (wsub l[i].2.2 l[i].1.2)
      have hs := lenE_succ hlt
      rw [← hn] at hs
      change ∀ w, Gives _ _ _ w (.int .i64 (normE l[i])) at M1
      have HS := Lib.hid (And.intro hs hn)
      generalize normE l[i] = t at *
      generalize wsub l[i].2.1 l[i].1.1 = ux at *
      generalize wsub l[i].2.2 l[i].1.2 = uy at *
      generalize l[i].1.1 = ax at *
      generalize l[i].1.2 = ay at *
      generalize l[i].2.1 = bx at *
      generalize l[i].2.2 = by_ at *
      clear hr hr0 hs hn
      go_wp2_with fail
      refine (S1 _).calls.mono ?_
      rintro e _ ⟨rfl, x1, rfl⟩
      go_wp2_with fail
      refine (M1 _).calls.mono ?_
      rintro e _ ⟨rfl, x2, rfl⟩
      go_wp2_with fail
      go_roundg (l.length - (i + 1))
      case measure => omega
      case rel => exact ⟨i + 1, wadd n t, hlt, Nat.le_refl _, rfl, HS.out.1.symm, by go_num, by (repeat (first | (with_reducible exact LaterOf.refl _) | (with_reducible refine LaterOf.alloc ?_ _) | (with_reducible refine LaterOf.drew ?_) | (with_reducible refine LaterOf.drewN ?_ _) | (with_reducible refine LaterOf.later ?_ _) | (with_reducible refine LaterOf.setCell ?_ (by first | exact Nat.le_refl _ | (simp; done) | omega | (simp; omega)) _)))⟩
    · obtain rfl : i = l.length := by omega
      rw [List.take_length] at hn
      subst hn
      go_wp2_with fail
      go_returns
      exact ⟨rfl, by (repeat (first | (with_reducible exact LaterOf.refl _) | (with_reducible refine LaterOf.alloc ?_ _) | (with_reducible refine LaterOf.drew ?_) | (with_reducible refine LaterOf.drewN ?_ _) | (with_reducible refine LaterOf.later ?_ _) | (with_reducible refine LaterOf.setCell ?_ (by first | exact Nat.le_refl _ | (simp; done) | omega | (simp; omega)) _)))⟩
set_option maxRecDepth 100000 in
set_option maxHeartbeats 8000000 in
theorem refLength_any (A : Option Addr) (c : Nat) (l : List SegP) (w : World) (h : IsSegs w A c l) (hlen : l.length < 4611686018427387904) :
    Gives Tryz.prog 19 #[.slice A l.length c] w (.int .i64 (lenE l)) := by
  apply Gives.ret
  have H := Lib.hid h
  clear h
  go_enter Tryz.func19, Tryz.ntmps19
  go_wp2_with fail
  go_loopg [3, 4] l.length (fun gas s3 s8 wr => ∃ (i : Nat) (n : Int), i ≤ l.length ∧ l.length - i ≤ gas ∧ s3 = .int .i64 n ∧ n = lenE (l.take i) ∧ s8 = .int .i64 i ∧ LaterOf w wr)
  case atStart => exact ⟨0, 0, by omega, by omega, rfl, rfl, rfl, by (repeat (first | (with_reducible exact LaterOf.refl _) | (with_reducible refine LaterOf.alloc ?_ _) | (with_reducible refine LaterOf.drew ?_) | (with_reducible refine LaterOf.drewN ?_ _) | (with_reducible refine LaterOf.later ?_ _) | (with_reducible refine LaterOf.setCell ?_ (by first | exact Nat.le_refl _ | (simp; done) | omega | (simp; omega)) _)))⟩
  case round =>
    obtain ⟨i, n, hi, hgas, rfl, hn, rfl, ⟨z, rfl⟩⟩ := hrel
    by_cases hlt : i < l.length
    · have hr0 := H.out.of (w' := z.wd) (by (repeat (first | (with_reducible exact SinceOf.refl _) | (with_reducible assumption) | (with_reducible refine SinceOf.alloc ?_ _) | (with_reducible refine SinceOf.drew ?_) | (with_reducible refine SinceOf.drewN ?_ _) | (with_reducible refine SinceOf.later ?_ _) | (with_reducible refine SinceOf.further ?_ _) | (with_reducible refine SinceOf.setCell ?_ (by first | exact Nat.le_refl _ | (simp; done) | omega | (simp; omega)) _))))
      obtain ⟨g, off, rfl, hr⟩ := hr0.at_ (by omega)
      have hO := hr.there
      have a0 := hr.e0 i hlt
      have a1 := hr.e1 i hlt
      have a2 := hr.e2 i hlt
      have a3 := hr.e3 i hlt
      have S1 := refSub_any l[i].2.1 l[i].2.2 l[i].1.1 l[i].1.2
      have M1 := refMaxNorm_any (wsub l[i].2.1 l[i].1.1) (wsub l[i].2.2 l[i].1.2)
      have hs := lenE_succ hlt
      rw [← hn] at hs
      change ∀ w, Gives _ _ _ w (.int .i64 (normE l[i])) at M1
      obtain ⟨n2, hn2⟩ : ∃ n2, n2 = wadd n (normE l[i]) := ⟨_, rfl⟩
      have w1 : IntKind.i64.wrap (n + normE l[i]) = n2 := by rw [hn2]; exact IntWalk.i64_left _
      rw [← hn2] at hs
      have HS := Lib.hid (And.intro hs hn)
      clear hn2
      generalize normE l[i] = t at *
      generalize wsub l[i].2.1 l[i].1.1 = ux at *
      generalize wsub l[i].2.2 l[i].1.2 = uy at *
      generalize l[i].1.1 = ax at *
      generalize l[i].1.2 = ay at *
      generalize l[i].2.1 = bx at *
      generalize l[i].2.2 = by_ at *
      clear hr hr0 hs hn
      go_wp2_with fail
      refine region_later (by kernel_rfl) (by kernel_rfl) ?_
      repeat (go_big_quiet_step ((first | (with_reducible refine Gives.later (S1 _)) | (with_reducible refine Gives.later (M1 _)))))
      refine wpQuiet_nil ?_
      rintro _ ⟨z4, rfl⟩
      go_wp2_with fail
      go_roundg (l.length - (i + 1))
      case measure => omega
      case rel => exact ⟨i + 1, n2, hlt, Nat.le_refl _, rfl, HS.out.1.symm, by go_num, by (repeat (first | (with_reducible exact LaterOf.refl _) | (with_reducible refine LaterOf.alloc ?_ _) | (with_reducible refine LaterOf.drew ?_) | (with_reducible refine LaterOf.drewN ?_ _) | (with_reducible refine LaterOf.later ?_ _) | (with_reducible refine LaterOf.setCell ?_ (by first | exact Nat.le_refl _ | (simp; done) | omega | (simp; omega)) _)))⟩
    · obtain rfl : i = l.length := by omega
      rw [List.take_length] at hn
      subst hn
      go_wp2_with fail
      go_returns
      exact ⟨rfl, by (repeat (first | (with_reducible exact LaterOf.refl _) | (with_reducible refine LaterOf.alloc ?_ _) | (with_reducible refine LaterOf.drew ?_) | (with_reducible refine LaterOf.drewN ?_ _) | (with_reducible refine LaterOf.later ?_ _) | (with_reducible refine LaterOf.setCell ?_ (by first | exact Nat.le_refl _ | (simp; done) | omega | (simp; omega)) _)))⟩
theorem meetP_range (s t : SegP) : (meetP s t).1 = 3 ∨ (meetP s t).1 ≠ 3 ∧ (meetP s t).2 = noSeg := by
  unfold meetP
  split
  · unfold meetK
    split
    · right; refine ⟨?_, rfl⟩
      simp only
      split
      · split <;> simp
      · simp
    · split
      · right; simp
      · split
        · right; simp
        · split
          · right; simp
          · split
            · right; simp
            · split
              · left; rfl
              · right; simp
  · right; simp
set_option maxRecDepth 100000 in
set_option maxHeartbeats 8000000 in
theorem refShare7_any (s t : SegP) (hs : segOk s = true) (ht : segOk t = true) (w : World) : Yields Tryz.prog 56 #[sgv s, sgv t] w (.tuple #[sgv (meetP s t).2, .bool (decide ((meetP s t).1 = 3))]) := by
  apply Yields.ret
  have M := refMeet_any s t
  have KI := meetK_is (segOk_near.1 hs).1 (segOk_near.1 hs).2 (segOk_near.1 ht).1 (segOk_near.1 ht).2
  have CI := (common_is hs ht KI).1
  have C := refCommon_any s t
  rw [meetI_K hs ht] at M
  have e : meetP s t = meetK s.1 s.2 t.1 t.2 := by unfold meetP; rw [hs, ht]; rfl
  have MR := meetP_range s t
  rw [e] at MR ⊢
  generalize meetK s.1 s.2 t.1 t.2 = K at *
  generalize sortedV (comL s t) = CL at *
  clear e KI
  obtain ⟨k, ⟨sa, sb⟩, sc, sd⟩ := K
  simp only at *
  by_cases hk : k = 3
  · subst hk
    obtain rfl := CI rfl
    rw [decide_eq_true rfl]
    clear CI MR
    go_enter Tryz.func56, Tryz.ntmps56
    go_wp2_with fail
    refine (M _).calls.mono ?_
    rintro e _ ⟨rfl, x1, rfl⟩
    go_wp2_with fail
    refine (C _).mono ?_
    rintro e _ ⟨A3, c3, rfl, ho, ⟨x3, rfl⟩⟩
    have row := ho.isRow encV_len
    obtain ⟨g, off, rfl, hr⟩ := row.at_ (by simp)
    have hO := hr.there
    have a0 := hr.v0 0 (by simp)
    have a1 := hr.v1 0 (by simp)
    have b0 := hr.v0 1 (by simp)
    have b1 := hr.v1 1 (by simp)
    have bl := (ho.below g rfl).1
    simp at a0 a1 b0 b1
    have sz1 := x1.size
    have sz3 := x3.size
    (try simp only [World.size_alloc] at sz1)
    (try simp only [World.size_alloc] at bl)
    have na : ¬ w.heap.size + 1 + 1 = g := by omega
    have nb : ¬ g = w.heap.size + 1 + 1 := by omega
    clear row ho hr
    go_wp2_with fail
    go_big_region
    all_goals
      go_wp2_with fail
      go_returns
      exact ⟨rfl, by (repeat (first | (with_reducible exact SinceOf.refl _) | (with_reducible assumption) | (with_reducible refine SinceOf.alloc ?_ _) | (with_reducible refine SinceOf.drew ?_) | (with_reducible refine SinceOf.drewN ?_ _) | (with_reducible refine SinceOf.later ?_ _) | (with_reducible refine SinceOf.further ?_ _) | (with_reducible refine SinceOf.setCell ?_ (by first | exact Nat.le_refl _ | (simp; done) | omega | (simp; omega)) _)))⟩
  · have hn := (MR.resolve_left hk).2
    simp only [noSeg, Prod.mk.injEq] at hn
    obtain ⟨⟨rfl, rfl⟩, rfl, rfl⟩ := hn
    rw [decide_eq_false hk]
    have hb : (k != 3) = true := by simpa using hk
    clear MR CI C
    go_enter Tryz.func56, Tryz.ntmps56
    go_wp2_with fail
    refine (M _).calls.mono ?_
    rintro e _ ⟨rfl, x1, rfl⟩
    go_wp2_with fail
    go_returns
    exact ⟨rfl, by (repeat (first | (with_reducible exact SinceOf.refl _) | (with_reducible assumption) | (with_reducible refine SinceOf.alloc ?_ _) | (with_reducible refine SinceOf.drew ?_) | (with_reducible refine SinceOf.drewN ?_ _) | (with_reducible refine SinceOf.later ?_ _) | (with_reducible refine SinceOf.further ?_ _) | (with_reducible refine SinceOf.setCell ?_ (by first | exact Nat.le_refl _ | (simp; done) | omega | (simp; omega)) _)))⟩
end Go.Proofs.YtkpnffokjpgalaaGreat
/- Layer 46: rows that stand apart; Share of the program and of the reference. -/
namespace Go.Proofs.YtkpnffokjpgalaaGreat
set_option linter.unusedVariables false
set_option linter.unusedSimpArgs false
open Go.RowKit Go.Sort
attribute [local go_sem ↓] Go.wp_at_zero Go.wp_at_succ

/-- Two rows do not lie in one block. -/
def Apt (A B : Option Addr) : Prop := ∀ b, blockOf A = some b → blockOf B ≠ some b
theorem Apt.symm {A B : Option Addr} (h : Apt A B) : Apt B A := fun b hb ha => h b ha hb
theorem Apt.nil (B : Option Addr) : Apt none B := fun b hb => by cases hb
theorem Apt.nil' (A : Option Addr) : Apt A none := fun b hb h => by cases h
theorem Apt.older {A B : Option Addr} {n : Nat} (h : ∀ b, blockOf A = some b → b < n) (k : ∀ b, blockOf B = some b → n ≤ b) : Apt A B := fun b hb hc => by
  have := h b hb; have := k b hc; omega
theorem Apt.grown {A B B' : Option Addr} {n : Nat} (h : Apt A B) (hA : ∀ b, blockOf A = some b → b < n) (hb : blockOf B' = blockOf B ∨ blockOf B' = some n) : Apt A B' := fun b ha hc => by
  rcases hb with e | e
  · exact h b ha (e ▸ hc)
  · have := hA b ha
    rw [e] at hc
    injection hc with hc
    omega
/-- A row that another row's growth leaves alone. -/
theorem row_keep {W w' : World} {A B B' : Option Addr} {c : Nat} {l : List SegP} (h : IsSegs W A c l) (h0 : 0 < l.length) (ha : Apt A B) (hg : W.grownBy w' (blockOf B)) (hb : blockOf B' = blockOf B ∨ blockOf B' = some W.heap.size) : IsSegs w' A c l ∧ Apt A B' :=
  ⟨h.kept hg ha, ha.grown (fun b hb => h.block_lt h0 hb) hb⟩
/-- What two segments share, if they overlap. -/
def shE (x y : SegP) : Option SegP := if (meetP x y).1 = 3 then some (meetP x y).2 else none
def shS (x : SegP) (F : List SegP) : List SegP := F.filterMap (shE x)
def shL (E F : List SegP) : List SegP := E.flatMap fun x => shS x F
def shareR (a b : List Pt) : List SegP := if okB a && okB b then shL (edgesV a) (edgesV b) else []
theorem shS_succ {x : SegP} {F : List SegP} {k : Nat} (h : k < F.length) : shS x (F.take (k + 1)) = shS x (F.take k) ++ (if (meetP x F[k]).1 = 3 then [(meetP x F[k]).2] else []) := by
  unfold shS
  rw [List.take_succ_eq_append_getElem h, List.filterMap_append]
  congr 1
  unfold shE
  split
  · rename_i h3; simp [h3]
  · rename_i h3; simp [h3]
theorem shS_len (x : SegP) (F : List SegP) : (shS x F).length ≤ F.length := List.length_filterMap_le _ _
theorem shL_succ {E F : List SegP} {i : Nat} (h : i < E.length) : shL (E.take (i + 1)) F = shL (E.take i) F ++ shS E[i] F := by
  unfold shL
  rw [List.take_succ_eq_append_getElem h, List.flatMap_append]
  simp
theorem shL_len (E F : List SegP) : (shL E F).length ≤ E.length * F.length := by
  induction E with
  | nil => simp [shL]
  | cons x E ih =>
    unfold shL at *
    rw [List.flatMap_cons, List.length_append, List.length_cons, Nat.succ_mul]
    have := shS_len x F
    omega
theorem okB_edge {r : List Pt} (h : okB r = true) : ∀ s ∈ edgesV r, segOk s = true := by
  have hk := okB_iff.1 h
  intro s hs
  have h2 : ¬ r.length < 2 := by have := hk.three; omega
  unfold edgesV at hs
  rw [if_neg h2] at hs
  obtain ⟨i, hi, rfl⟩ := List.mem_map.1 hs
  rw [List.mem_range] at hi
  exact segOk_near.2 ⟨at0_near hk.near hi, rv_near hk.near (by omega) _⟩
theorem okB_len40 {r : List Pt} (h : okB r = true) : 3 ≤ (edgesV r).length ∧ (edgesV r).length ≤ 40 := by
  have hk := okB_iff.1 h
  rw [edgesV_len (by have := hk.three; omega)]
  exact ⟨hk.three, hk.most⟩
set_option maxRecDepth 100000 in
set_option maxHeartbeats 16000000 in
theorem share_any (A B : Option Addr) (c d : Nat) (a b : List (Int × Int)) (w : World) (ha : IsVecs w A c a) (hb : IsVecs w B d b) (hla : a.length < 4611686018427387904) (hlb : b.length < 4611686018427387904) :
    Calls Tryz.prog 20 #[.slice A a.length c, .slice B b.length d] w fun e w' => ∃ A' c', e = .returned (.slice A' (shareR a b).length c') ∧ OwnSegs w.heap.size w' A' c' (shareR a b) ∧ (shareR a b).length ≤ 1600 ∧ SinceOf w w' := by
  have V1 := fun W (hW : SinceOf w W) => ringValid_any A c a W (ha.of hW) hla
  have V2 := fun W (hW : SinceOf w W) => ringValid_any B d b W (hb.of hW) hlb
  have H := Lib.hid (And.intro ha hb)
  clear ha hb
  unfold shareR
  cases h1 : okB a
  · rw [h1] at V1
    rw [Bool.false_and, if_neg Bool.false_ne_true]
    clear V2 h1
    go_enter Tryz.func20, Tryz.ntmps20
    go_wp2_with fail
    refine (V1 _ (by (repeat (first | (with_reducible exact SinceOf.refl _) | (with_reducible assumption) | (with_reducible refine SinceOf.alloc ?_ _) | (with_reducible refine SinceOf.drew ?_) | (with_reducible refine SinceOf.drewN ?_ _) | (with_reducible refine SinceOf.later ?_ _) | (with_reducible refine SinceOf.further ?_ _) | (with_reducible refine SinceOf.setCell ?_ (by first | exact Nat.le_refl _ | (simp; done) | omega | (simp; omega)) _))))).calls.mono ?_
    rintro e _ ⟨rfl, x1, rfl⟩
    go_wp2_with fail
    go_returns
    exact ⟨none, 0, rfl, Owns.nil _ _ _ _ _, by simp, by (repeat (first | (with_reducible exact SinceOf.refl _) | (with_reducible assumption) | (with_reducible refine SinceOf.alloc ?_ _) | (with_reducible refine SinceOf.drew ?_) | (with_reducible refine SinceOf.drewN ?_ _) | (with_reducible refine SinceOf.later ?_ _) | (with_reducible refine SinceOf.further ?_ _) | (with_reducible refine SinceOf.setCell ?_ (by first | exact Nat.le_refl _ | (simp; done) | omega | (simp; omega)) _)))⟩
  cases h2 : okB b
  · rw [h1] at V1
    rw [h2] at V2
    rw [Bool.and_false, if_neg Bool.false_ne_true]
    clear h1 h2
    go_enter Tryz.func20, Tryz.ntmps20
    go_wp2_with fail
    refine (V1 _ (by (repeat (first | (with_reducible exact SinceOf.refl _) | (with_reducible assumption) | (with_reducible refine SinceOf.alloc ?_ _) | (with_reducible refine SinceOf.drew ?_) | (with_reducible refine SinceOf.drewN ?_ _) | (with_reducible refine SinceOf.later ?_ _) | (with_reducible refine SinceOf.further ?_ _) | (with_reducible refine SinceOf.setCell ?_ (by first | exact Nat.le_refl _ | (simp; done) | omega | (simp; omega)) _))))).calls.mono ?_
    rintro e _ ⟨rfl, x1, rfl⟩
    go_wp2_with fail
    refine (V2 _ (by (repeat (first | (with_reducible exact SinceOf.refl _) | (with_reducible assumption) | (with_reducible refine SinceOf.alloc ?_ _) | (with_reducible refine SinceOf.drew ?_) | (with_reducible refine SinceOf.drewN ?_ _) | (with_reducible refine SinceOf.later ?_ _) | (with_reducible refine SinceOf.further ?_ _) | (with_reducible refine SinceOf.setCell ?_ (by first | exact Nat.le_refl _ | (simp; done) | omega | (simp; omega)) _))))).calls.mono ?_
    rintro e _ ⟨rfl, x2, rfl⟩
    go_wp2_with fail
    go_returns
    exact ⟨none, 0, rfl, Owns.nil _ _ _ _ _, by simp, by (repeat (first | (with_reducible exact SinceOf.refl _) | (with_reducible assumption) | (with_reducible refine SinceOf.alloc ?_ _) | (with_reducible refine SinceOf.drew ?_) | (with_reducible refine SinceOf.drewN ?_ _) | (with_reducible refine SinceOf.later ?_ _) | (with_reducible refine SinceOf.further ?_ _) | (with_reducible refine SinceOf.setCell ?_ (by first | exact Nat.le_refl _ | (simp; done) | omega | (simp; omega)) _)))⟩
  rw [h1] at V1
  rw [h2] at V2
  rw [Bool.and_true, if_pos rfl]
  obtain ⟨la1, la2⟩ := okB_len40 h1
  obtain ⟨lb1, lb2⟩ := okB_len40 h2
  have a40 : a.length ≤ 100000 := by have := (okB_iff.1 h1).most; omega
  have b40 : b.length ≤ 100000 := by have := (okB_iff.1 h2).most; omega
  have E1 := fun W (hW : SinceOf w W) => ringEdges_any A c a W (H.out.1.of hW) a40
  have E2 := fun W (hW : SinceOf w W) => ringEdges_any B d b W (H.out.2.of hW) b40
  have fin : (shL (edgesV a) (edgesV b)).length ≤ 1600 := Nat.le_trans (shL_len _ _) (Nat.mul_le_mul la2 lb2)
  have HF := Lib.hid (And.intro fin E2)
  generalize edgesV a = E at *
  generalize edgesV b = F at *
  obtain ⟨i0, hi, hz0, hz1, hz2⟩ := info_parts infoSeg
  have HI := Lib.hid (And.intro hi (And.intro hz0 (And.intro hz1 hz2)))
  clear hi hz0 hz1 hz2 h1 h2 E2 fin
  go_enter Tryz.func20, Tryz.ntmps20
  go_wp2_with fail
  refine (V1 _ (by (repeat (first | (with_reducible exact SinceOf.refl _) | (with_reducible assumption) | (with_reducible refine SinceOf.alloc ?_ _) | (with_reducible refine SinceOf.drew ?_) | (with_reducible refine SinceOf.drewN ?_ _) | (with_reducible refine SinceOf.later ?_ _) | (with_reducible refine SinceOf.further ?_ _) | (with_reducible refine SinceOf.setCell ?_ (by first | exact Nat.le_refl _ | (simp; done) | omega | (simp; omega)) _))))).calls.mono ?_
  rintro e _ ⟨rfl, x1, rfl⟩
  go_wp2_with fail
  refine (V2 _ (by (repeat (first | (with_reducible exact SinceOf.refl _) | (with_reducible assumption) | (with_reducible refine SinceOf.alloc ?_ _) | (with_reducible refine SinceOf.drew ?_) | (with_reducible refine SinceOf.drewN ?_ _) | (with_reducible refine SinceOf.later ?_ _) | (with_reducible refine SinceOf.further ?_ _) | (with_reducible refine SinceOf.setCell ?_ (by first | exact Nat.le_refl _ | (simp; done) | omega | (simp; omega)) _))))).calls.mono ?_
  rintro e _ ⟨rfl, x2, rfl⟩
  go_wp2_with fail
  refine (E1 _ (by (repeat (first | (with_reducible exact SinceOf.refl _) | (with_reducible assumption) | (with_reducible refine SinceOf.alloc ?_ _) | (with_reducible refine SinceOf.drew ?_) | (with_reducible refine SinceOf.drewN ?_ _) | (with_reducible refine SinceOf.later ?_ _) | (with_reducible refine SinceOf.further ?_ _) | (with_reducible refine SinceOf.setCell ?_ (by first | exact Nat.le_refl _ | (simp; done) | omega | (simp; omega)) _))))).mono ?_
  rintro e _ ⟨A4, c4, rfl, ho4, ⟨x3, rfl⟩⟩
  have H4 := Lib.hid ho4
  clear ho4 V1 V2 E1
  go_wp2_with fail
  go_loopg [5, 23] E.length (fun gas s5 s23 wr => ∃ (i : Nat) (A2 : Option Addr) (c2 : Nat) (L : List SegP), i ≤ E.length ∧ E.length - i ≤ gas ∧ s5 = .slice A2 L.length c2 ∧ s23 = .int .i64 i ∧ L = shL (E.take i) F ∧ OwnSegs w.heap.size wr A2 c2 L ∧ Apt A4 A2 ∧ IsSegs wr A4 c4 E ∧ SinceOf w wr)
  case atStart => exact ⟨0, none, 0, [], by omega, by omega, rfl, rfl, rfl, Owns.nil _ _ _ _ _, Apt.nil' _, H4.out.isRow encE_len, by (repeat (first | (with_reducible exact SinceOf.refl _) | (with_reducible assumption) | (with_reducible refine SinceOf.alloc ?_ _) | (with_reducible refine SinceOf.drew ?_) | (with_reducible refine SinceOf.drewN ?_ _) | (with_reducible refine SinceOf.later ?_ _) | (with_reducible refine SinceOf.further ?_ _) | (with_reducible refine SinceOf.setCell ?_ (by first | exact Nat.le_refl _ | (simp; done) | omega | (simp; omega)) _)))⟩
  case round =>
    clear H4
    obtain ⟨i, A2, c2, L, hi, hgas, rfl, rfl, hL, ho, hap, hrow, ⟨z, rfl⟩⟩ := hrel
    by_cases hlt : i < E.length
    · obtain ⟨g, off, rfl, hr⟩ := hrow.at_ (by omega)
      have hO := hr.there
      have a0 := hr.e0 i hlt
      have a1 := hr.e1 i hlt
      have a2 := hr.e2 i hlt
      have a3 := hr.e3 i hlt
      have hsu := shL_succ (F := F) hlt
      rw [← hL] at hsu
      obtain ⟨x, hx⟩ : ∃ x, x = E[i] := ⟨_, rfl⟩
      rw [← hx] at hsu a0 a1 a2 a3
      have hLl : L.length ≤ i * F.length := by rw [hL]; exact Nat.le_trans (shL_len _ _) (Nat.mul_le_mul_right _ (by rw [List.length_take]; omega))
      have hif : i * F.length ≤ 40 * 40 := Nat.mul_le_mul (by omega) lb2
      have E2 := HF.out.2
      have HS := Lib.hid (And.intro hsu (And.intro ho (And.intro hap hrow)))
      have hLb : L.length ≤ 1600 := by omega
      obtain ⟨⟨xa, xb⟩, xc, xd⟩ := x
      simp only at a0 a1 a2 a3
      clear hL hsu ho hap hrow hr hx hLl hif
      go_wp2_with fail
      refine (E2 _ (by (repeat (first | (with_reducible exact SinceOf.refl _) | (with_reducible assumption) | (with_reducible refine SinceOf.alloc ?_ _) | (with_reducible refine SinceOf.drew ?_) | (with_reducible refine SinceOf.drewN ?_ _) | (with_reducible refine SinceOf.later ?_ _) | (with_reducible refine SinceOf.further ?_ _) | (with_reducible refine SinceOf.setCell ?_ (by first | exact Nat.le_refl _ | (simp; done) | omega | (simp; omega)) _))))).mono ?_
      rintro e _ ⟨A5, c5, rfl, ho5, ⟨z5, rfl⟩⟩
      have hx5 := z5.size
      simp only [World.size_alloc] at hx5
      have r1 : IsSegs z5.wd (some ⟨g, off, none⟩) c4 E := HS.out.2.2.2.of (by (repeat (first | (with_reducible exact SinceOf.refl _) | (with_reducible assumption) | (with_reducible refine SinceOf.alloc ?_ _) | (with_reducible refine SinceOf.drew ?_) | (with_reducible refine SinceOf.drewN ?_ _) | (with_reducible refine SinceOf.later ?_ _) | (with_reducible refine SinceOf.further ?_ _) | (with_reducible refine SinceOf.setCell ?_ (by first | exact Nat.le_refl _ | (simp; done) | omega | (simp; omega)) _))))
      have r2 : IsSegs z5.wd (some ⟨z.wd.heap.size, 0, none⟩) 1 [((xa, xb), (xc, xd))] := (isRow_atE z.wd _ xa xb xc xd rfl).of (by (repeat (first | (with_reducible exact SinceOf.refl _) | (with_reducible assumption) | (with_reducible refine SinceOf.alloc ?_ _) | (with_reducible refine SinceOf.drew ?_) | (with_reducible refine SinceOf.drewN ?_ _) | (with_reducible refine SinceOf.later ?_ _) | (with_reducible refine SinceOf.further ?_ _) | (with_reducible refine SinceOf.setCell ?_ (by first | exact Nat.le_refl _ | (simp; done) | omega | (simp; omega)) _))))
      have q5 : ∀ b, blockOf A5 = some b → z.wd.heap.size + 1 ≤ b := fun b hb => by have := (ho5.below b hb).1; simpa using this
      have p1 : Apt A5 A2 := (Apt.older (fun b hb => (HS.out.2.1.below b hb).2) (fun b hb => by have := q5 b hb; omega)).symm
      have p2 : Apt (some ⟨z.wd.heap.size, 0, none⟩) A2 := (Apt.older (fun b hb => (HS.out.2.1.below b hb).2) (fun b hb => by have : z.wd.heap.size = b := (by simpa [blockOf] using hb); omega)).symm
      have HT := Lib.hid (And.intro (ho5.isRow encE_len) (And.intro r1 (And.intro r2 (And.intro p1 p2))))
      clear ho5 r1 r2 p1 p2 q5 E2 a0 a1 a2 a3
      go_wp2_with fail
      go_loopg [5, 30] F.length (fun gas s5 s30 wr => ∃ (k : Nat) (A6 : Option Addr) (c6 : Nat) (L2 : List SegP), k ≤ F.length ∧ F.length - k ≤ gas ∧ s5 = .slice A6 L2.length c6 ∧ s30 = .int .i64 k ∧ L2 = L ++ shS ((xa, xb), (xc, xd)) (F.take k) ∧ L2.length ≤ L.length + k ∧ OwnSegs w.heap.size wr A6 c6 L2 ∧ Apt (some ⟨g, off, none⟩) A6 ∧ IsSegs wr (some ⟨g, off, none⟩) c4 E ∧ Apt A5 A6 ∧ IsSegs wr A5 c5 F ∧ Apt (some ⟨z.wd.heap.size, 0, none⟩) A6 ∧ IsSegs wr (some ⟨z.wd.heap.size, 0, none⟩) 1 [((xa, xb), (xc, xd))] ∧ SinceOf w wr)
      case atStart => exact ⟨0, A2, c2, L, by omega, by omega, rfl, rfl, (by unfold shS; simp), by omega, HS.out.2.1.of (by (repeat (first | (with_reducible exact SinceOf.refl _) | (with_reducible assumption) | (with_reducible refine SinceOf.alloc ?_ _) | (with_reducible refine SinceOf.drew ?_) | (with_reducible refine SinceOf.drewN ?_ _) | (with_reducible refine SinceOf.later ?_ _) | (with_reducible refine SinceOf.further ?_ _) | (with_reducible refine SinceOf.setCell ?_ (by first | exact Nat.le_refl _ | (simp; done) | omega | (simp; omega)) _)))), HS.out.2.2.1, HT.out.2.1, HT.out.2.2.2.1, HT.out.1, HT.out.2.2.2.2, HT.out.2.2.1, by (repeat (first | (with_reducible exact SinceOf.refl _) | (with_reducible assumption) | (with_reducible refine SinceOf.alloc ?_ _) | (with_reducible refine SinceOf.drew ?_) | (with_reducible refine SinceOf.drewN ?_ _) | (with_reducible refine SinceOf.later ?_ _) | (with_reducible refine SinceOf.further ?_ _) | (with_reducible refine SinceOf.setCell ?_ (by first | exact Nat.le_refl _ | (simp; done) | omega | (simp; omega)) _)))⟩
      case round =>
        clear HT
        obtain ⟨k, A6, c6, L2, hk, hgas2, rfl, rfl, hL2, hLl2, ho, hap1, hr1, hap2, hr2, hap3, hr3, ⟨v, rfl⟩⟩ := hrel
        have hvs := v.size
        by_cases hlt2 : k < F.length
        · obtain ⟨g5, off5, rfl, hr⟩ := hr2.at_ (by omega)
          have hO5 := hr.there
          have y0 := hr.e0 k hlt2
          have y1 := hr.e1 k hlt2
          have y2 := hr.e2 k hlt2
          have y3 := hr.e3 k hlt2
          obtain ⟨gb, offb, eb, hrb⟩ := hr3.at_ (by simp)
          simp only [Option.some.injEq, Addr.mk.injEq, and_true] at eb
          obtain ⟨rfl, rfl⟩ := eb
          have hOb := hrb.there
          have b0 := hrb.e0 0 (by simp)
          have b1 := hrb.e1 0 (by simp)
          have b2 := hrb.e2 0 (by simp)
          have b3 := hrb.e3 0 (by simp)
          simp at b0 b1 b2 b3
          have hsu := shS_succ (x := ((xa, xb), (xc, xd))) hlt2
          have SH := segShare_any ((xa, xb), (xc, xd)) F[k]
          obtain ⟨y, hy⟩ : ∃ y, y = F[k] := ⟨_, rfl⟩
          rw [← hy] at hsu SH y0 y1 y2 y3
          obtain ⟨bb, hbb⟩ : ∃ b, b = decide ((meetP ((xa, xb), (xc, xd)) y).1 = 3) := ⟨_, rfl⟩
          rw [← hbb] at SH
          have hsu2 : L ++ shS ((xa, xb), (xc, xd)) (F.take (k + 1)) = L2 ++ (if bb = true then [(meetP ((xa, xb), (xc, xd)) y).2] else []) := by
            rw [hsu, hbb, hL2]; simp only [decide_eq_true_eq, List.append_assoc]
          obtain ⟨sh, hsh⟩ : ∃ s, s = (meetP ((xa, xb), (xc, xd)) y).2 := ⟨_, rfl⟩
          rw [← hsh] at SH hsu2
          have HW := Lib.hid (And.intro ho (And.intro hap1 (And.intro hr1 (And.intro hap2 (And.intro hr2 (And.intro hap3 (And.intro hr3 hsu2)))))))
          obtain ⟨⟨sa, sb⟩, sc, sd⟩ := sh
          obtain ⟨⟨ya, yb⟩, yc, yd⟩ := y
          simp only at y0 y1 y2 y3
          change ∀ w, Gives _ _ #[sg xa xb xc xd, sg ya yb yc yd] w (.tuple #[sg sa sb sc sd, .bool bb]) at SH
          clear ho hap1 hr1 hap2 hr2 hap3 hr3 hsu2 hsu hy hbb hsh hL2 hr hrb
          go_wp2_with fail
          refine (SH _).calls.mono ?_
          rintro e _ ⟨rfl, v1, rfl⟩
          have hv1 := v1.size
          simp only [World.size_alloc] at hv1
          clear SH y0 y1 y2 y3 b0 b1 b2 b3
          have m1 : IsSegs v1.wd (some ⟨g, off, none⟩) c4 E := HW.out.2.2.1.of (by (repeat (first | (with_reducible exact SinceOf.refl _) | (with_reducible assumption) | (with_reducible refine SinceOf.alloc ?_ _) | (with_reducible refine SinceOf.drew ?_) | (with_reducible refine SinceOf.drewN ?_ _) | (with_reducible refine SinceOf.later ?_ _) | (with_reducible refine SinceOf.further ?_ _) | (with_reducible refine SinceOf.setCell ?_ (by first | exact Nat.le_refl _ | (simp; done) | omega | (simp; omega)) _))))
          have m2 : IsSegs v1.wd (some ⟨g5, off5, none⟩) c5 F := HW.out.2.2.2.2.1.of (by (repeat (first | (with_reducible exact SinceOf.refl _) | (with_reducible assumption) | (with_reducible refine SinceOf.alloc ?_ _) | (with_reducible refine SinceOf.drew ?_) | (with_reducible refine SinceOf.drewN ?_ _) | (with_reducible refine SinceOf.later ?_ _) | (with_reducible refine SinceOf.further ?_ _) | (with_reducible refine SinceOf.setCell ?_ (by first | exact Nat.le_refl _ | (simp; done) | omega | (simp; omega)) _))))
          have m3 : IsSegs v1.wd (some ⟨z.wd.heap.size, 0, none⟩) 1 [((xa, xb), (xc, xd))] := HW.out.2.2.2.2.2.2.1.of (by (repeat (first | (with_reducible exact SinceOf.refl _) | (with_reducible assumption) | (with_reducible refine SinceOf.alloc ?_ _) | (with_reducible refine SinceOf.drew ?_) | (with_reducible refine SinceOf.drewN ?_ _) | (with_reducible refine SinceOf.later ?_ _) | (with_reducible refine SinceOf.further ?_ _) | (with_reducible refine SinceOf.setCell ?_ (by first | exact Nat.le_refl _ | (simp; done) | omega | (simp; omega)) _))))
          have HM := Lib.hid (And.intro m1 (And.intro m2 m3))
          clear m1 m2 m3
          cases bb
          · go_wp2_with fail
            go_roundg (F.length - (k + 1))
            case measure => omega
            case rel => exact ⟨k + 1, A6, c6, L2, hlt2, Nat.le_refl _, rfl, by go_num, (by rw [HW.out.2.2.2.2.2.2.2]; simp), by omega, HW.out.1.of (by (repeat (first | (with_reducible exact SinceOf.refl _) | (with_reducible assumption) | (with_reducible refine SinceOf.alloc ?_ _) | (with_reducible refine SinceOf.drew ?_) | (with_reducible refine SinceOf.drewN ?_ _) | (with_reducible refine SinceOf.later ?_ _) | (with_reducible refine SinceOf.further ?_ _) | (with_reducible refine SinceOf.setCell ?_ (by first | exact Nat.le_refl _ | (simp; done) | omega | (simp; omega)) _)))), HW.out.2.1, HM.out.1.of (by (repeat (first | (with_reducible exact SinceOf.refl _) | (with_reducible assumption) | (with_reducible refine SinceOf.alloc ?_ _) | (with_reducible refine SinceOf.drew ?_) | (with_reducible refine SinceOf.drewN ?_ _) | (with_reducible refine SinceOf.later ?_ _) | (with_reducible refine SinceOf.further ?_ _) | (with_reducible refine SinceOf.setCell ?_ (by first | exact Nat.le_refl _ | (simp; done) | omega | (simp; omega)) _)))), HW.out.2.2.2.1, HM.out.2.1.of (by (repeat (first | (with_reducible exact SinceOf.refl _) | (with_reducible assumption) | (with_reducible refine SinceOf.alloc ?_ _) | (with_reducible refine SinceOf.drew ?_) | (with_reducible refine SinceOf.drewN ?_ _) | (with_reducible refine SinceOf.later ?_ _) | (with_reducible refine SinceOf.further ?_ _) | (with_reducible refine SinceOf.setCell ?_ (by first | exact Nat.le_refl _ | (simp; done) | omega | (simp; omega)) _)))), HW.out.2.2.2.2.2.1, HM.out.2.2.of (by (repeat (first | (with_reducible exact SinceOf.refl _) | (with_reducible assumption) | (with_reducible refine SinceOf.alloc ?_ _) | (with_reducible refine SinceOf.drew ?_) | (with_reducible refine SinceOf.drewN ?_ _) | (with_reducible refine SinceOf.later ?_ _) | (with_reducible refine SinceOf.further ?_ _) | (with_reducible refine SinceOf.setCell ?_ (by first | exact Nat.le_refl _ | (simp; done) | omega | (simp; omega)) _)))), by (repeat (first | (with_reducible exact SinceOf.refl _) | (with_reducible assumption) | (with_reducible refine SinceOf.alloc ?_ _) | (with_reducible refine SinceOf.drew ?_) | (with_reducible refine SinceOf.drewN ?_ _) | (with_reducible refine SinceOf.later ?_ _) | (with_reducible refine SinceOf.further ?_ _) | (with_reducible refine SinceOf.setCell ?_ (by first | exact Nat.le_refl _ | (simp; done) | omega | (simp; omega)) _)))⟩
          · go_wp2_with (at_builtin; refine wpList_append_row rfl (.tmp 41) (.tmp 43) 30 rfl encE_len (by omega) encE_one i0 _ 32 Tryz.underlying30 HI.out.1 HI.out.2.1 HI.out.2.2.1 HI.out.2.2.2 rfl (l := L2) (A := A6) (c := c6) (base := w.heap.size) rfl (HW.out.1.of (by (repeat (first | (with_reducible exact SinceOf.refl _) | (with_reducible assumption) | (with_reducible refine SinceOf.alloc ?_ _) | (with_reducible refine SinceOf.drew ?_) | (with_reducible refine SinceOf.drewN ?_ _) | (with_reducible refine SinceOf.later ?_ _) | (with_reducible refine SinceOf.further ?_ _) | (with_reducible refine SinceOf.setCell ?_ (by first | exact Nat.le_refl _ | (simp; done) | omega | (simp; omega)) _))))) (m := [((sa, sb), (sc, sd))]) rfl (isRow_atE _ _ _ _ _ _ (by first | rfl | simp)) (by unfold maxLen; simp; omega) (by simp; omega) (by simp; omega) ?_; intro A7 c7 w7 ho7 hgr7 hb7)
            have k1 := row_keep (HM.out.1.of (by (repeat (first | (with_reducible exact SinceOf.refl _) | (with_reducible assumption) | (with_reducible refine SinceOf.alloc ?_ _) | (with_reducible refine SinceOf.drew ?_) | (with_reducible refine SinceOf.drewN ?_ _) | (with_reducible refine SinceOf.later ?_ _) | (with_reducible refine SinceOf.further ?_ _) | (with_reducible refine SinceOf.setCell ?_ (by first | exact Nat.le_refl _ | (simp; done) | omega | (simp; omega)) _))))) (by omega) HW.out.2.1 hgr7 hb7
            have k2 := row_keep (HM.out.2.1.of (by (repeat (first | (with_reducible exact SinceOf.refl _) | (with_reducible assumption) | (with_reducible refine SinceOf.alloc ?_ _) | (with_reducible refine SinceOf.drew ?_) | (with_reducible refine SinceOf.drewN ?_ _) | (with_reducible refine SinceOf.later ?_ _) | (with_reducible refine SinceOf.further ?_ _) | (with_reducible refine SinceOf.setCell ?_ (by first | exact Nat.le_refl _ | (simp; done) | omega | (simp; omega)) _))))) (by omega) HW.out.2.2.2.1 hgr7 hb7
            have k3 := row_keep (HM.out.2.2.of (by (repeat (first | (with_reducible exact SinceOf.refl _) | (with_reducible assumption) | (with_reducible refine SinceOf.alloc ?_ _) | (with_reducible refine SinceOf.drew ?_) | (with_reducible refine SinceOf.drewN ?_ _) | (with_reducible refine SinceOf.later ?_ _) | (with_reducible refine SinceOf.further ?_ _) | (with_reducible refine SinceOf.setCell ?_ (by first | exact Nat.le_refl _ | (simp; done) | omega | (simp; omega)) _))))) (by simp) HW.out.2.2.2.2.2.1 hgr7 hb7
            have k4 : SinceOf w w7 := SinceOf.grown (by (repeat (first | (with_reducible exact SinceOf.refl _) | (with_reducible assumption) | (with_reducible refine SinceOf.alloc ?_ _) | (with_reducible refine SinceOf.drew ?_) | (with_reducible refine SinceOf.drewN ?_ _) | (with_reducible refine SinceOf.later ?_ _) | (with_reducible refine SinceOf.further ?_ _) | (with_reducible refine SinceOf.setCell ?_ (by first | exact Nat.le_refl _ | (simp; done) | omega | (simp; omega)) _)))) hgr7 (fun q hq => (HW.out.1.below q hq).1)
            have HK := Lib.hid (And.intro k1 (And.intro k2 (And.intro k3 (And.intro k4 ho7))))
            clear k1 k2 k3 k4 ho7 hgr7 hb7
            go_wp2_with fail
            go_roundg (F.length - (k + 1))
            case measure => omega
            case rel => exact ⟨k + 1, A7, c7, L2 ++ [((sa, sb), (sc, sd))], hlt2, Nat.le_refl _, (by first | rfl | simp), by go_num, (by rw [HW.out.2.2.2.2.2.2.2]; simp), by simp; omega, HK.out.2.2.2.2, HK.out.1.2, HK.out.1.1, HK.out.2.1.2, HK.out.2.1.1, HK.out.2.2.1.2, HK.out.2.2.1.1, HK.out.2.2.2.1⟩
        · obtain rfl : k = F.length := by omega
          rw [List.take_length] at hL2
          have HW := Lib.hid (And.intro ho (And.intro hap1 (And.intro hr1 hL2)))
          clear ho hap1 hr1 hap2 hr2 hap3 hr3 hL2
          go_wp2_with fail
          go_roundg (E.length - (i + 1))
          case measure => omega
          case rel => exact ⟨i + 1, A6, c6, L2, hlt, Nat.le_refl _, rfl, by go_num, by rw [HW.out.2.2.2, ← HS.out.1], HW.out.1, HW.out.2.1, HW.out.2.2.1, by (repeat (first | (with_reducible exact SinceOf.refl _) | (with_reducible assumption) | (with_reducible refine SinceOf.alloc ?_ _) | (with_reducible refine SinceOf.drew ?_) | (with_reducible refine SinceOf.drewN ?_ _) | (with_reducible refine SinceOf.later ?_ _) | (with_reducible refine SinceOf.further ?_ _) | (with_reducible refine SinceOf.setCell ?_ (by first | exact Nat.le_refl _ | (simp; done) | omega | (simp; omega)) _)))⟩
    · obtain rfl : i = E.length := by omega
      rw [List.take_length] at hL
      subst hL
      have HS := Lib.hid ho
      clear ho hap hrow
      go_wp2_with fail
      go_returns
      exact ⟨A2, c2, rfl, HS.out, HF.out.1, by (repeat (first | (with_reducible exact SinceOf.refl _) | (with_reducible assumption) | (with_reducible refine SinceOf.alloc ?_ _) | (with_reducible refine SinceOf.drew ?_) | (with_reducible refine SinceOf.drewN ?_ _) | (with_reducible refine SinceOf.later ?_ _) | (with_reducible refine SinceOf.further ?_ _) | (with_reducible refine SinceOf.setCell ?_ (by first | exact Nat.le_refl _ | (simp; done) | omega | (simp; omega)) _)))⟩
end Go.Proofs.YtkpnffokjpgalaaGreat
/- Layer 46: Share of the reference. -/
namespace Go.Proofs.YtkpnffokjpgalaaGreat
set_option linter.unusedVariables false
set_option linter.unusedSimpArgs false
open Go.RowKit Go.Sort
attribute [local go_sem ↓] Go.wp_at_zero Go.wp_at_succ

set_option maxRecDepth 100000 in
set_option maxHeartbeats 16000000 in
theorem refShare_any (A B : Option Addr) (c d : Nat) (a b : List (Int × Int)) (w : World) (ha : IsVecs w A c a) (hb : IsVecs w B d b) (hla : a.length < 4611686018427387904) (hlb : b.length < 4611686018427387904) :
    Calls Tryz.prog 21 #[.slice A a.length c, .slice B b.length d] w fun e w' => ∃ A' c', e = .returned (.slice A' (shareR a b).length c') ∧ OwnSegs w.heap.size w' A' c' (shareR a b) ∧ (shareR a b).length ≤ 1600 ∧ SinceOf w w' := by
  have V1 := fun W (hW : SinceOf w W) => refRingValid_any A c a W (ha.of hW) hla
  have V2 := fun W (hW : SinceOf w W) => refRingValid_any B d b W (hb.of hW) hlb
  have H := Lib.hid (And.intro ha hb)
  clear ha hb
  unfold shareR
  cases h1 : okB a
  · rw [h1] at V1
    rw [Bool.false_and, if_neg Bool.false_ne_true]
    clear V2 h1
    go_enter Tryz.func21, Tryz.ntmps21
    go_wp2_with fail
    refine (V1 _ (by (repeat (first | (with_reducible exact SinceOf.refl _) | (with_reducible assumption) | (with_reducible refine SinceOf.alloc ?_ _) | (with_reducible refine SinceOf.drew ?_) | (with_reducible refine SinceOf.drewN ?_ _) | (with_reducible refine SinceOf.later ?_ _) | (with_reducible refine SinceOf.further ?_ _) | (with_reducible refine SinceOf.setCell ?_ (by first | exact Nat.le_refl _ | (simp; done) | omega | (simp; omega)) _))))).calls.mono ?_
    rintro e _ ⟨rfl, x1, rfl⟩
    go_wp2_with fail
    go_returns
    exact ⟨none, 0, rfl, Owns.nil _ _ _ _ _, by simp, by (repeat (first | (with_reducible exact SinceOf.refl _) | (with_reducible assumption) | (with_reducible refine SinceOf.alloc ?_ _) | (with_reducible refine SinceOf.drew ?_) | (with_reducible refine SinceOf.drewN ?_ _) | (with_reducible refine SinceOf.later ?_ _) | (with_reducible refine SinceOf.further ?_ _) | (with_reducible refine SinceOf.setCell ?_ (by first | exact Nat.le_refl _ | (simp; done) | omega | (simp; omega)) _)))⟩
  cases h2 : okB b
  · rw [h1] at V1
    rw [h2] at V2
    rw [Bool.and_false, if_neg Bool.false_ne_true]
    clear h1 h2
    go_enter Tryz.func21, Tryz.ntmps21
    go_wp2_with fail
    refine (V1 _ (by (repeat (first | (with_reducible exact SinceOf.refl _) | (with_reducible assumption) | (with_reducible refine SinceOf.alloc ?_ _) | (with_reducible refine SinceOf.drew ?_) | (with_reducible refine SinceOf.drewN ?_ _) | (with_reducible refine SinceOf.later ?_ _) | (with_reducible refine SinceOf.further ?_ _) | (with_reducible refine SinceOf.setCell ?_ (by first | exact Nat.le_refl _ | (simp; done) | omega | (simp; omega)) _))))).calls.mono ?_
    rintro e _ ⟨rfl, x1, rfl⟩
    go_wp2_with fail
    refine (V2 _ (by (repeat (first | (with_reducible exact SinceOf.refl _) | (with_reducible assumption) | (with_reducible refine SinceOf.alloc ?_ _) | (with_reducible refine SinceOf.drew ?_) | (with_reducible refine SinceOf.drewN ?_ _) | (with_reducible refine SinceOf.later ?_ _) | (with_reducible refine SinceOf.further ?_ _) | (with_reducible refine SinceOf.setCell ?_ (by first | exact Nat.le_refl _ | (simp; done) | omega | (simp; omega)) _))))).calls.mono ?_
    rintro e _ ⟨rfl, x2, rfl⟩
    go_wp2_with fail
    go_returns
    exact ⟨none, 0, rfl, Owns.nil _ _ _ _ _, by simp, by (repeat (first | (with_reducible exact SinceOf.refl _) | (with_reducible assumption) | (with_reducible refine SinceOf.alloc ?_ _) | (with_reducible refine SinceOf.drew ?_) | (with_reducible refine SinceOf.drewN ?_ _) | (with_reducible refine SinceOf.later ?_ _) | (with_reducible refine SinceOf.further ?_ _) | (with_reducible refine SinceOf.setCell ?_ (by first | exact Nat.le_refl _ | (simp; done) | omega | (simp; omega)) _)))⟩
  rw [h1] at V1
  rw [h2] at V2
  rw [Bool.and_true, if_pos rfl]
  obtain ⟨la1, la2⟩ := okB_len40 h1
  obtain ⟨lb1, lb2⟩ := okB_len40 h2
  have a40 : a.length ≤ 100000 := by have := (okB_iff.1 h1).most; omega
  have b40 : b.length ≤ 100000 := by have := (okB_iff.1 h2).most; omega
  have E1 := fun W (hW : SinceOf w W) => refEdges_any A c a W (H.out.1.of hW) a40
  have E2 := fun W (hW : SinceOf w W) => refEdges_any B d b W (H.out.2.of hW) b40
  have fin : (shL (edgesV a) (edgesV b)).length ≤ 1600 := Nat.le_trans (shL_len _ _) (Nat.mul_le_mul la2 lb2)
  have HF := Lib.hid (And.intro fin (And.intro (okB_edge h1) (okB_edge h2)))
  generalize edgesV a = E at *
  generalize edgesV b = F at *
  obtain ⟨i0, hi, hz0, hz1, hz2⟩ := info_parts infoSeg
  have HI := Lib.hid (And.intro hi (And.intro hz0 (And.intro hz1 hz2)))
  clear hi hz0 hz1 hz2 h1 h2 fin
  go_enter Tryz.func21, Tryz.ntmps21
  go_wp2_with fail
  refine (V1 _ (by (repeat (first | (with_reducible exact SinceOf.refl _) | (with_reducible assumption) | (with_reducible refine SinceOf.alloc ?_ _) | (with_reducible refine SinceOf.drew ?_) | (with_reducible refine SinceOf.drewN ?_ _) | (with_reducible refine SinceOf.later ?_ _) | (with_reducible refine SinceOf.further ?_ _) | (with_reducible refine SinceOf.setCell ?_ (by first | exact Nat.le_refl _ | (simp; done) | omega | (simp; omega)) _))))).calls.mono ?_
  rintro e _ ⟨rfl, x1, rfl⟩
  go_wp2_with fail
  refine (V2 _ (by (repeat (first | (with_reducible exact SinceOf.refl _) | (with_reducible assumption) | (with_reducible refine SinceOf.alloc ?_ _) | (with_reducible refine SinceOf.drew ?_) | (with_reducible refine SinceOf.drewN ?_ _) | (with_reducible refine SinceOf.later ?_ _) | (with_reducible refine SinceOf.further ?_ _) | (with_reducible refine SinceOf.setCell ?_ (by first | exact Nat.le_refl _ | (simp; done) | omega | (simp; omega)) _))))).calls.mono ?_
  rintro e _ ⟨rfl, x2, rfl⟩
  go_wp2_with fail
  refine (E1 _ (by (repeat (first | (with_reducible exact SinceOf.refl _) | (with_reducible assumption) | (with_reducible refine SinceOf.alloc ?_ _) | (with_reducible refine SinceOf.drew ?_) | (with_reducible refine SinceOf.drewN ?_ _) | (with_reducible refine SinceOf.later ?_ _) | (with_reducible refine SinceOf.further ?_ _) | (with_reducible refine SinceOf.setCell ?_ (by first | exact Nat.le_refl _ | (simp; done) | omega | (simp; omega)) _))))).mono ?_
  rintro e _ ⟨A4, c4, rfl, ho4, ⟨x3, rfl⟩⟩
  go_wp2_with fail
  refine (E2 _ (by (repeat (first | (with_reducible exact SinceOf.refl _) | (with_reducible assumption) | (with_reducible refine SinceOf.alloc ?_ _) | (with_reducible refine SinceOf.drew ?_) | (with_reducible refine SinceOf.drewN ?_ _) | (with_reducible refine SinceOf.later ?_ _) | (with_reducible refine SinceOf.further ?_ _) | (with_reducible refine SinceOf.setCell ?_ (by first | exact Nat.le_refl _ | (simp; done) | omega | (simp; omega)) _))))).mono ?_
  rintro e _ ⟨A5, c5, rfl, ho5, ⟨x4, rfl⟩⟩
  have H4 := Lib.hid (And.intro ((ho4.isRow encE_len).of (w' := x4.wd) (by (repeat (first | (with_reducible exact SinceOf.refl _) | (with_reducible assumption) | (with_reducible refine SinceOf.alloc ?_ _) | (with_reducible refine SinceOf.drew ?_) | (with_reducible refine SinceOf.drewN ?_ _) | (with_reducible refine SinceOf.later ?_ _) | (with_reducible refine SinceOf.further ?_ _) | (with_reducible refine SinceOf.setCell ?_ (by first | exact Nat.le_refl _ | (simp; done) | omega | (simp; omega)) _))))) (ho5.isRow encE_len))
  have hwb : w.heap.size ≤ x4.wd.heap.size := by have := x1.size; have := x2.size; have := x3.size; have := x4.size; omega
  clear ho4 ho5 V1 V2 E1 E2
  go_wp2_with fail
  go_loopg [7, 8] E.length (fun gas s5 s23 wr => ∃ (i : Nat) (A2 : Option Addr) (c2 : Nat) (L : List SegP), i ≤ E.length ∧ E.length - i ≤ gas ∧ s5 = .slice A2 L.length c2 ∧ s23 = .int .i64 i ∧ L = shL (E.take i) F ∧ OwnSegs x4.wd.heap.size wr A2 c2 L ∧ SinceOf x4.wd wr)
  case atStart => exact ⟨0, none, 0, [], by omega, by omega, rfl, rfl, rfl, Owns.nil _ _ _ _ _, by (repeat (first | (with_reducible exact SinceOf.refl _) | (with_reducible assumption) | (with_reducible refine SinceOf.alloc ?_ _) | (with_reducible refine SinceOf.drew ?_) | (with_reducible refine SinceOf.drewN ?_ _) | (with_reducible refine SinceOf.later ?_ _) | (with_reducible refine SinceOf.further ?_ _) | (with_reducible refine SinceOf.setCell ?_ (by first | exact Nat.le_refl _ | (simp; done) | omega | (simp; omega)) _)))⟩
  case round =>
    obtain ⟨i, A2, c2, L, hi, hgas, rfl, rfl, hL, ho, ⟨z, rfl⟩⟩ := hrel
    by_cases hlt : i < E.length
    · have hrow := H4.out.1.of (w' := z.wd) (by (repeat (first | (with_reducible exact SinceOf.refl _) | (with_reducible assumption) | (with_reducible refine SinceOf.alloc ?_ _) | (with_reducible refine SinceOf.drew ?_) | (with_reducible refine SinceOf.drewN ?_ _) | (with_reducible refine SinceOf.later ?_ _) | (with_reducible refine SinceOf.further ?_ _) | (with_reducible refine SinceOf.setCell ?_ (by first | exact Nat.le_refl _ | (simp; done) | omega | (simp; omega)) _))))
      have hsu := shL_succ (F := F) hlt
      rw [← hL] at hsu
      have hok := HF.out.2.1 _ (List.getElem_mem hlt)
      obtain ⟨x, hx⟩ : ∃ x, x = E[i] := ⟨_, rfl⟩
      rw [← hx] at hsu hok
      have hLl : L.length ≤ i * F.length := by rw [hL]; exact Nat.le_trans (shL_len _ _) (Nat.mul_le_mul_right _ (by rw [List.length_take]; omega))
      have hif : i * F.length ≤ 40 * 40 := Nat.mul_le_mul (by omega) lb2
      have HS := Lib.hid (And.intro hsu (And.intro ho (And.intro hx hok)))
      have hLb : L.length ≤ 1600 := by omega
      clear hL hsu ho hx hLl hif hrow hok
      go_wp2_with fail
      go_loopg [7, 9] F.length (fun gas s5 s30 wr => ∃ (k : Nat) (A6 : Option Addr) (c6 : Nat) (L2 : List SegP), k ≤ F.length ∧ F.length - k ≤ gas ∧ s5 = .slice A6 L2.length c6 ∧ s30 = .int .i64 k ∧ L2 = L ++ shS x (F.take k) ∧ L2.length ≤ L.length + k ∧ OwnSegs x4.wd.heap.size wr A6 c6 L2 ∧ SinceOf x4.wd wr)
      case atStart => exact ⟨0, A2, c2, L, by omega, by omega, rfl, rfl, (by unfold shS; simp), by omega, HS.out.2.1, by (repeat (first | (with_reducible exact SinceOf.refl _) | (with_reducible assumption) | (with_reducible refine SinceOf.alloc ?_ _) | (with_reducible refine SinceOf.drew ?_) | (with_reducible refine SinceOf.drewN ?_ _) | (with_reducible refine SinceOf.later ?_ _) | (with_reducible refine SinceOf.further ?_ _) | (with_reducible refine SinceOf.setCell ?_ (by first | exact Nat.le_refl _ | (simp; done) | omega | (simp; omega)) _)))⟩
      case round =>
        obtain ⟨k, A6, c6, L2, hk, hgas2, rfl, rfl, hL2, hLl2, ho, ⟨v, rfl⟩⟩ := hrel
        have hvs := v.size
        by_cases hlt2 : k < F.length
        · have hr1 := H4.out.1.of (w' := v.wd) (by (repeat (first | (with_reducible exact SinceOf.refl _) | (with_reducible assumption) | (with_reducible refine SinceOf.alloc ?_ _) | (with_reducible refine SinceOf.drew ?_) | (with_reducible refine SinceOf.drewN ?_ _) | (with_reducible refine SinceOf.later ?_ _) | (with_reducible refine SinceOf.further ?_ _) | (with_reducible refine SinceOf.setCell ?_ (by first | exact Nat.le_refl _ | (simp; done) | omega | (simp; omega)) _))))
          have hr2 := H4.out.2.of (w' := v.wd) (by (repeat (first | (with_reducible exact SinceOf.refl _) | (with_reducible assumption) | (with_reducible refine SinceOf.alloc ?_ _) | (with_reducible refine SinceOf.drew ?_) | (with_reducible refine SinceOf.drewN ?_ _) | (with_reducible refine SinceOf.later ?_ _) | (with_reducible refine SinceOf.further ?_ _) | (with_reducible refine SinceOf.setCell ?_ (by first | exact Nat.le_refl _ | (simp; done) | omega | (simp; omega)) _))))
          obtain ⟨g5, off5, rfl, hr⟩ := hr2.at_ (by omega)
          have hO5 := hr.there
          have y0 := hr.e0 k hlt2
          have y1 := hr.e1 k hlt2
          have y2 := hr.e2 k hlt2
          have y3 := hr.e3 k hlt2
          obtain ⟨gb, offb, rfl, hrb⟩ := hr1.at_ (by omega)
          have hOb := hrb.there
          have b0 := hrb.e0 i hlt
          have b1 := hrb.e1 i hlt
          have b2 := hrb.e2 i hlt
          have b3 := hrb.e3 i hlt
          rw [← HS.out.2.2.1] at b0 b1 b2 b3
          have hsu := shS_succ (x := x) hlt2
          have SH := refShare7_any x F[k] HS.out.2.2.2 (HF.out.2.2 _ (List.getElem_mem hlt2))
          obtain ⟨y, hy⟩ : ∃ y, y = F[k] := ⟨_, rfl⟩
          rw [← hy] at hsu SH y0 y1 y2 y3
          obtain ⟨bb, hbb⟩ : ∃ b, b = decide ((meetP x y).1 = 3) := ⟨_, rfl⟩
          rw [← hbb] at SH
          have hsu2 : L ++ shS x (F.take (k + 1)) = L2 ++ (if bb = true then [(meetP x y).2] else []) := by
            rw [hsu, hbb, hL2]; simp only [decide_eq_true_eq, List.append_assoc]
          obtain ⟨sh, hsh⟩ : ∃ s, s = (meetP x y).2 := ⟨_, rfl⟩
          rw [← hsh] at SH hsu2
          have HW := Lib.hid (And.intro ho hsu2)
          change ∀ w, Yields _ _ #[sg x.1.1 x.1.2 x.2.1 x.2.2, sg y.1.1 y.1.2 y.2.1 y.2.2] w (.tuple #[sg sh.1.1 sh.1.2 sh.2.1 sh.2.2, .bool bb]) at SH
          clear ho hsu2 hsu hy hbb hsh hL2 hr hrb hr1 hr2
          generalize x.1.1 = xa at *
          generalize x.1.2 = xb at *
          generalize x.2.1 = xc at *
          generalize x.2.2 = xd at *
          generalize y.1.1 = ya at *
          generalize y.1.2 = yb at *
          generalize y.2.1 = yc at *
          generalize y.2.2 = yd at *
          obtain ⟨⟨sa, sb⟩, sc, sd⟩ := sh
          simp only at SH
          go_wp2_with fail
          go_region_held3 (fun w' => (w'.cell? ⟨gb, offb + i * 4, none⟩ = some (.int .i64 xa) ∧ w'.cell? ⟨gb, offb + i * 4 + 1, none⟩ = some (.int .i64 xb) ∧ w'.cell? ⟨gb, offb + i * 4 + 2, none⟩ = some (.int .i64 xc) ∧ w'.cell? ⟨gb, offb + i * 4 + 3, none⟩ = some (.int .i64 xd)) ∧ w'.cell? ⟨g5, off5 + k * 4, none⟩ = some (.int .i64 ya) ∧ w'.cell? ⟨g5, off5 + k * 4 + 1, none⟩ = some (.int .i64 yb) ∧ w'.cell? ⟨g5, off5 + k * 4 + 2, none⟩ = some (.int .i64 yc) ∧ w'.cell? ⟨g5, off5 + k * 4 + 3, none⟩ = some (.int .i64 yd)) ((simp [go_sem, *]))
            ((go_at_call 56; (with_reducible refine (SH _).calls.mono ?_); rintro e _ ⟨rfl, v1, rfl⟩))
          all_goals
            have hv1 := v1.size
            (try simp only [World.size_alloc, World.size_drew] at hv1)
            clear SH y0 y1 y2 y3 b0 b1 b2 b3
            cases bb
            · go_wp2_with fail
              go_roundg (F.length - (k + 1))
              case measure => omega
              case rel => exact ⟨k + 1, A6, c6, L2, hlt2, Nat.le_refl _, rfl, by go_num, (by rw [HW.out.2]; simp), by omega, HW.out.1.of (by (repeat (first | (with_reducible exact SinceOf.refl _) | (with_reducible assumption) | (with_reducible refine SinceOf.alloc ?_ _) | (with_reducible refine SinceOf.drew ?_) | (with_reducible refine SinceOf.drewN ?_ _) | (with_reducible refine SinceOf.later ?_ _) | (with_reducible refine SinceOf.further ?_ _) | (with_reducible refine SinceOf.setCell ?_ (by first | exact Nat.le_refl _ | (simp; done) | omega | (simp; omega)) _)))), by (repeat (first | (with_reducible exact SinceOf.refl _) | (with_reducible assumption) | (with_reducible refine SinceOf.alloc ?_ _) | (with_reducible refine SinceOf.drew ?_) | (with_reducible refine SinceOf.drewN ?_ _) | (with_reducible refine SinceOf.later ?_ _) | (with_reducible refine SinceOf.further ?_ _) | (with_reducible refine SinceOf.setCell ?_ (by first | exact Nat.le_refl _ | (simp; done) | omega | (simp; omega)) _)))⟩
            · go_wp2_with (at_builtin; refine wpList_append_row rfl (.tmp 49) (.tmp 51) 30 rfl encE_len (by omega) encE_one i0 _ 32 Tryz.underlying30 HI.out.1 HI.out.2.1 HI.out.2.2.1 HI.out.2.2.2 rfl (l := L2) (A := A6) (c := c6) (base := x4.wd.heap.size) rfl (HW.out.1.of (by (repeat (first | (with_reducible exact SinceOf.refl _) | (with_reducible assumption) | (with_reducible refine SinceOf.alloc ?_ _) | (with_reducible refine SinceOf.drew ?_) | (with_reducible refine SinceOf.drewN ?_ _) | (with_reducible refine SinceOf.later ?_ _) | (with_reducible refine SinceOf.further ?_ _) | (with_reducible refine SinceOf.setCell ?_ (by first | exact Nat.le_refl _ | (simp; done) | omega | (simp; omega)) _))))) (m := [((sa, sb), (sc, sd))]) rfl (isRow_atE _ _ _ _ _ _ (by first | rfl | simp)) (by unfold maxLen; simp; omega) (by simp; omega) (by simp; omega) ?_; intro A7 c7 w7 ho7 hgr7 hb7)
              have k4 : SinceOf x4.wd w7 := SinceOf.grown (by (repeat (first | (with_reducible exact SinceOf.refl _) | (with_reducible assumption) | (with_reducible refine SinceOf.alloc ?_ _) | (with_reducible refine SinceOf.drew ?_) | (with_reducible refine SinceOf.drewN ?_ _) | (with_reducible refine SinceOf.later ?_ _) | (with_reducible refine SinceOf.further ?_ _) | (with_reducible refine SinceOf.setCell ?_ (by first | exact Nat.le_refl _ | (simp; done) | omega | (simp; omega)) _)))) hgr7 (fun q hq => (HW.out.1.below q hq).1)
              have HK := Lib.hid (And.intro k4 ho7)
              clear k4 ho7 hgr7 hb7
              go_wp2_with fail
              go_roundg (F.length - (k + 1))
              case measure => omega
              case rel => exact ⟨k + 1, A7, c7, L2 ++ [((sa, sb), (sc, sd))], hlt2, Nat.le_refl _, (by first | rfl | simp), by go_num, (by rw [HW.out.2]; simp), by simp; omega, HK.out.2, HK.out.1⟩
        · obtain rfl : k = F.length := by omega
          rw [List.take_length] at hL2
          have HW := Lib.hid (And.intro ho hL2)
          clear ho hL2
          go_wp2_with fail
          go_roundg (E.length - (i + 1))
          case measure => omega
          case rel => exact ⟨i + 1, A6, c6, L2, hlt, Nat.le_refl _, rfl, by go_num, by rw [HW.out.2, ← HS.out.1], HW.out.1, by (repeat (first | (with_reducible exact SinceOf.refl _) | (with_reducible assumption) | (with_reducible refine SinceOf.alloc ?_ _) | (with_reducible refine SinceOf.drew ?_) | (with_reducible refine SinceOf.drewN ?_ _) | (with_reducible refine SinceOf.later ?_ _) | (with_reducible refine SinceOf.further ?_ _) | (with_reducible refine SinceOf.setCell ?_ (by first | exact Nat.le_refl _ | (simp; done) | omega | (simp; omega)) _)))⟩
    · obtain rfl : i = E.length := by omega
      rw [List.take_length] at hL
      subst hL
      have HS := Lib.hid (ho.base_le hwb)
      clear ho
      go_wp2_with fail
      go_returns
      exact ⟨A2, c2, rfl, HS.out, HF.out.1, by (repeat (first | (with_reducible exact SinceOf.refl _) | (with_reducible assumption) | (with_reducible refine SinceOf.alloc ?_ _) | (with_reducible refine SinceOf.drew ?_) | (with_reducible refine SinceOf.drewN ?_ _) | (with_reducible refine SinceOf.later ?_ _) | (with_reducible refine SinceOf.further ?_ _) | (with_reducible refine SinceOf.setCell ?_ (by first | exact Nat.le_refl _ | (simp; done) | omega | (simp; omega)) _)))⟩
end Go.Proofs.YtkpnffokjpgalaaGreat
