/- Layer 52: ScheduleDispatch's walk. (printed by gensch48.py) -/
import Derived.Test.YtdcncalcncomoaaSch47
import Derived.Test.YtdcncalcncomoaaSchAt
import Derived.Deep.RegionHeld3
namespace Go.Proofs.Ytdcncalcncomoaa
open Go.RowKit Go.Sort
set_option linter.unusedVariables false
attribute [local go_sem ↓] Go.wp_at_zero Go.wp_at_succ

theorem equalIn_slotR (w : World) (a0 a1 a2 a3 b0 b1 b2 b3 : Int) : (Op.equalIn 10000 46 (costV a0 a1 a2 a3) (costV b0 b1 b2 b3)).run Try.prog w = .ok (eqC a0 a1 a2 a3 b0 b1 b2 b3) w := by
  have u3 := Try.underlying3
  have a3' := Try.isAgg3
  have z3 := Try.sizeOf3
  have hS : Try.prog.underlying 46 = some (.struct (Try.prog.fieldsOf 46)) := by kernel_rfl
  have hp : Try.prog.stoodInHeld 46 = false := by kernel_rfl
  rw [show (10000 : Nat) = 9999 + 1 from rfl, run_equalIn_agg w 9999 46 _ _ hS hp]
  simp only [Program.fieldsOf, Try.underlying46]
  unfold eqC
  go_simp
  by_cases h1 : a0 = b0 <;> by_cases h2 : a1 = b1 <;> by_cases h3 : a2 = b2 <;> by_cases h4 : a3 = b3 <;> simp [h1, h2, h3, h4]
@[go_sem ↓] theorem neq_slotR (w : World) (a0 a1 a2 a3 b0 b1 b2 b3 : Int) : (binOp .neq 46 (costV a0 a1 a2 a3) (costV b0 b1 b2 b3)).run Try.prog w = .ok (.bool (!eqC a0 a1 a2 a3 b0 b1 b2 b3)) w := by
  rw [run_neq_struct, equalIn_slotR]; rfl
@[go_sem ↓] theorem eqGuard_slotR (w : World) (op : BinOp) (x y : Operand) (a0 a1 a2 a3 b0 b1 b2 b3 : Int) : (eqGuard op 46 x y (costV a0 a1 a2 a3) (costV b0 b1 b2 b3)).run Try.prog w = .ok () w :=
  run_eqGuard_agg w op _ x y _ _ (by kernel_rfl)
theorem eqC_self (a b c d : Int) : eqC a b c d a b c d = true := by unfold eqC; simp
theorem beginV_with (s : ShopR) (cA : Option Addr) (cc : Nat) (L : List JobR) (jb m : Int) : ∀ (l : List SlotR) (b : Int), beginV (withCals s cA cc) L jb m b l = beginV s L jb m b l
  | [], b => rfl
  | x :: r, b => by
    unfold beginV
    rw [beginV_with s cA cc L jb m r, beginV_with s cA cc L jb m r]
    rfl
theorem firstFit_with (s : ShopR) (cA : Option Addr) (cc : Nat) (L : List JobR) (l : List SlotR) (jb m : Int) : ∀ (ts : List Int), firstFit (withCals s cA cc) L l jb m ts = firstFit s L l jb m ts
  | [] => rfl
  | t :: r => by
    unfold firstFit
    rw [firstFit_with s cA cc L l jb m r]
    rfl
theorem onV_with (s : ShopR) (cA : Option Addr) (cc : Nat) (L : List JobR) (l : List SlotR) (jb m : Int) : onV (withCals s cA cc) L l jb m = onV s L l jb m := by
  unfold onV
  rw [beginV_with]
  cases beginV s L jb m (jobAt L jb).rel l with
  | none => rfl
  | some b => exact firstFit_with s cA cc L l jb m _
theorem dispR_with (s : ShopR) (cA : Option Addr) (cc : Nat) (L : List JobR) (l : List SlotR) (j : Int) : dispR (withCals s cA cc) L l j = dispR s L l j := by
  have e : dispatchV (withCals s cA cc) L l j = dispatchV s L l j := by
    unfold dispatchV
    rw [show (fun (best : Option SlotR) (m : Int) => betterS best (onV (withCals s cA cc) L l j m)) = fun best m => betterS best (onV s L l j m) from funext fun b => funext fun m => by rw [onV_with]]
  have e2 : validT (withCals s cA cc) L l = validT s L l := rfl
  unfold dispR
  rw [e, e2]
/-- What the law asks of Dispatch's answer. -/
theorem dispR_good {s : ShopR} {L : List JobR} {l : List SlotR} {j x0 xm x2 x3 er : Int} {ok : Bool} (h : dispR s L l j = (⟨x0, xm, x2, x3⟩, ok, er)) :
    (er ≠ 0 ∧ ok = false) ∨ (er = 0 ∧ checkS s L = true ∧ GoodS s L l ∧ ∃ jb : Nat, j = jb ∧ jb < L.length ∧ (ok = true → (validT s L (l ++ [⟨x0, xm, x2, x3⟩])).2 = 0) ∧
      ∀ m u fe, m ∈ (jobAt L jb).ms → u ∈ candV s L l jb m → finishAt s m u (jobAt L jb).dur = (fe, 0) → (validT s L (l ++ [⟨jb, m, u, fe⟩])).2 = 0 → ok = true ∧ ¬ fe < x3) := by
  unfold dispR at h
  by_cases hv : (validT s L l).2 = 0
  · rw [if_pos hv] at h
    by_cases ha : askedE L l j = 0
    · right
      rw [if_pos ha] at h
      obtain ⟨hc, hg⟩ := validT_zero.1 hv
      obtain ⟨h0, h1⟩ := asked_in ha
      obtain ⟨jb, rfl⟩ : ∃ q : Nat, j = q := ⟨j.toNat, by omega⟩
      have hjb : jb < L.length := by omega
      have hrel := (job_parts (check_job hc (List.getElem_mem hjb))).2.2.2.2.1.1
      rw [← jobAt_at hjb] at hrel
      injection h with h2 h3
      injection h3 with h3 h4
      refine ⟨h4.symm, hc, hg, jb, rfl, hjb, fun hok => ?_, fun m u fe hm hu hf hx => ?_⟩
      · rw [← h2]
        rw [hok] at h3
        obtain ⟨y, hy⟩ := Option.isSome_iff_exists.1 h3
        rw [hy]
        have := dispatch_valid hrel hy
        unfold validT
        rw [if_pos hc]
        exact this
      · obtain ⟨y, hy, hle⟩ := dispatch_best hrel hm hu (fits_true hc hf hx)
        rw [hy] at h2 h3
        rw [hf] at hle
        have e : y = ⟨x0, xm, x2, x3⟩ := h2
        rw [e] at hle
        refine ⟨h3.symm, ?_⟩
        simp only at hle
        omega
    · left
      rw [if_neg ha] at h
      injection h with h2 h3
      injection h3 with h3 h4
      exact ⟨by rw [← h4]; exact ha, h3.symm⟩
  · left
    rw [if_neg hv] at h
    injection h with h2 h3
    injection h3 with h3 h4
    exact ⟨by rw [← h4]; exact hv, h3.symm⟩
set_option maxRecDepth 100000 in
set_option maxHeartbeats 16000000 in
theorem sdisp_walk (aw : ∀ w : World, Yields Try.prog 5 #[] w (.bool true)) (s : ShopR) (A : Option Addr) (c : Nat) (L : List JobR) (B : Option Addr) (d : Nat) (l : List SlotR) (j : Int) (w : World) (hs : IsShop w s) (hL : IsJobs w A c L) (hl : IsSlots w B d l) (hll : l.length < 4611686018427387904) (hcap : l.length ≤ d) :
    Yields Try.prog 3 #[probV s A L.length c, .slice B l.length d, .int .i64 j] w (.bool true) := by
  apply Yields.ret
  have SM := fun W (hW : SinceOf w W) => small_any s A c L W (hs.of hW) (hL.of hW)
  have NE := fun W (hW : SinceOf w W) => near_any B d l W (hl.of hW) hll
  cases hsm : smallB s L
  · rw [hsm] at SM
    clear hsm hs hL hl
    go_enter Try.func3, Try.ntmps3
    go_wp2_with fail
    refine (aw _).calls.mono ?_
    rintro e _ ⟨rfl, x1, rfl⟩
    go_wp2_with fail
    refine (SM _ (by (repeat (first | (with_reducible exact SinceOf.refl _) | (with_reducible assumption) | (with_reducible refine SinceOf.alloc ?_ _) | (with_reducible refine SinceOf.drew ?_) | (with_reducible refine SinceOf.drewN ?_ _) | (with_reducible refine SinceOf.later ?_ _) | (with_reducible refine SinceOf.further ?_ _) | (with_reducible refine SinceOf.setCell ?_ (by first | exact Nat.le_refl _ | (simp; done) | omega | (simp; omega)) _))))).calls.mono ?_
    rintro e _ ⟨rfl, x2, rfl⟩
    go_wp2_with fail
    go_returns
    exact ⟨rfl, by (repeat (first | (with_reducible exact SinceOf.refl _) | (with_reducible assumption) | (with_reducible refine SinceOf.alloc ?_ _) | (with_reducible refine SinceOf.drew ?_) | (with_reducible refine SinceOf.drewN ?_ _) | (with_reducible refine SinceOf.later ?_ _) | (with_reducible refine SinceOf.further ?_ _) | (with_reducible refine SinceOf.setCell ?_ (by first | exact Nat.le_refl _ | (simp; done) | omega | (simp; omega)) _)))⟩
  have hlens := few_lens hsm
  rw [hsm] at SM
  clear hsm
  cases hne : nearL l
  · rw [hne] at NE
    clear hne hs hL hl
    go_enter Try.func3, Try.ntmps3
    go_wp2_with fail
    refine (aw _).calls.mono ?_
    rintro e _ ⟨rfl, x1, rfl⟩
    go_wp2_with fail
    refine (SM _ (by (repeat (first | (with_reducible exact SinceOf.refl _) | (with_reducible assumption) | (with_reducible refine SinceOf.alloc ?_ _) | (with_reducible refine SinceOf.drew ?_) | (with_reducible refine SinceOf.drewN ?_ _) | (with_reducible refine SinceOf.later ?_ _) | (with_reducible refine SinceOf.further ?_ _) | (with_reducible refine SinceOf.setCell ?_ (by first | exact Nat.le_refl _ | (simp; done) | omega | (simp; omega)) _))))).calls.mono ?_
    rintro e _ ⟨rfl, x2, rfl⟩
    go_wp2_with fail
    refine (NE _ (by (repeat (first | (with_reducible exact SinceOf.refl _) | (with_reducible assumption) | (with_reducible refine SinceOf.alloc ?_ _) | (with_reducible refine SinceOf.drew ?_) | (with_reducible refine SinceOf.drewN ?_ _) | (with_reducible refine SinceOf.later ?_ _) | (with_reducible refine SinceOf.further ?_ _) | (with_reducible refine SinceOf.setCell ?_ (by first | exact Nat.le_refl _ | (simp; done) | omega | (simp; omega)) _))))).calls.mono ?_
    rintro e _ ⟨rfl, x3, rfl⟩
    go_wp2_with fail
    go_returns
    exact ⟨rfl, by (repeat (first | (with_reducible exact SinceOf.refl _) | (with_reducible assumption) | (with_reducible refine SinceOf.alloc ?_ _) | (with_reducible refine SinceOf.drew ?_) | (with_reducible refine SinceOf.drewN ?_ _) | (with_reducible refine SinceOf.later ?_ _) | (with_reducible refine SinceOf.further ?_ _) | (with_reducible refine SinceOf.setCell ?_ (by first | exact Nat.le_refl _ | (simp; done) | omega | (simp; omega)) _)))⟩
  have hlen := near_len hne
  rw [hne] at NE
  clear hne
  obtain ⟨⟨⟨x0, xm, x2, x3⟩, ok, er⟩, hD⟩ : ∃ D, dispR s L l j = D := ⟨_, rfl⟩
  have PD : ∀ cA cc jA jc tA tc W, IsShop W (withCals s cA cc) → IsJobs W jA jc L → IsSlots W tA tc l → l.length ≤ tc → Yields Try.prog 8 #[.agg #[.slice cA s.cals.length cc, .slice s.B s.rows.length s.d, .int .i64 s.most], .slice jA L.length jc, .slice tA l.length tc, .int .i64 j] W (.tuple #[.agg #[.int .i64 x0, .int .i64 xm, .int .i64 x2, .int .i64 x3], .bool ok, .int .i64 er]) := by
    intro cA cc jA jc tA tc W h1 h2 h3 h4
    have := progDispatch_any (withCals s cA cc) jA jc L tA tc l j W h1 h2 h3 (by omega) h4
    rw [show dispR (withCals s cA cc) L l j = (⟨x0, xm, x2, x3⟩, ok, er) from (dispR_with s cA cc L l j).trans hD] at this
    exact this
  have RD : ∀ W, SinceOf w W → Yields Try.prog 12 #[.agg #[.slice s.A s.cals.length s.c, .slice s.B s.rows.length s.d, .int .i64 s.most], .slice A L.length c, .slice B l.length d, .int .i64 j] W (.tuple #[.agg #[.int .i64 x0, .int .i64 xm, .int .i64 x2, .int .i64 x3], .bool ok, .int .i64 er]) := by
    intro W hW
    have := refDispatch52_any s A c L B d l j W (hs.of hW) (hL.of hW) (hl.of hW) (by omega) hcap
    rw [hD] at this
    exact this
  have hgd := dispR_good hD
  have heq := eqC_self x0 xm x2 x3
  have VA := fun (x : SlotR) B' d' W (hW : SinceOf w W) (hx : IsSlots W B' d' (l ++ [x])) (hd : (l ++ [x]).length ≤ d') => refValid52_any s A c L B' d' (l ++ [x]) W (hs.of hW) (hL.of hW) hx (by simp; omega) hd
  have CA := fun (hc : checkS s L = true) (hg : GoodS s L l) (jb : Nat) (hjb : jb < L.length) (m : Nat) (hm : m < s.cals.length) W (hW : SinceOf w W) => refCand_any s A c L B d l jb m W (hs.of hW) (hL.of hW) (check_good hc) (hl.of hW) (by omega) (good_named hg) hjb hm
  obtain ⟨ti, ni, nz0, nz1, nz2⟩ := info_parts infoSlotR
  have HI := Lib.hid (And.intro ni (And.intro nz0 (And.intro nz1 nz2)))
  have hcl := hs.cals.len
  have hjl := hL.len
  have H := Lib.hid (And.intro hs (And.intro hL (And.intro hl (And.intro VA (And.intro CA hgd)))))
  clear hs hL hl hD hgd VA CA ni nz0 nz1 nz2
  go_enter Try.func3, Try.ntmps3
  go_wp2_with fail
  refine (aw _).calls.mono ?_
  rintro e _ ⟨rfl, z1, rfl⟩
  go_wp2_with fail
  refine (SM _ (by (repeat (first | (with_reducible exact SinceOf.refl _) | (with_reducible assumption) | (with_reducible refine SinceOf.alloc ?_ _) | (with_reducible refine SinceOf.drew ?_) | (with_reducible refine SinceOf.drewN ?_ _) | (with_reducible refine SinceOf.later ?_ _) | (with_reducible refine SinceOf.further ?_ _) | (with_reducible refine SinceOf.setCell ?_ (by first | exact Nat.le_refl _ | (simp; done) | omega | (simp; omega)) _))))).calls.mono ?_
  rintro e _ ⟨rfl, z2, rfl⟩
  go_wp2_with fail
  refine (NE _ (by (repeat (first | (with_reducible exact SinceOf.refl _) | (with_reducible assumption) | (with_reducible refine SinceOf.alloc ?_ _) | (with_reducible refine SinceOf.drew ?_) | (with_reducible refine SinceOf.drewN ?_ _) | (with_reducible refine SinceOf.later ?_ _) | (with_reducible refine SinceOf.further ?_ _) | (with_reducible refine SinceOf.setCell ?_ (by first | exact Nat.le_refl _ | (simp; done) | omega | (simp; omega)) _))))).calls.mono ?_
  rintro e _ ⟨rfl, z3, rfl⟩
  clear SM NE aw
  go_upto_region 5 with fail
  go_cut [7, 8, 9] (fun s7 s8 s9 wx => ∃ g : Nat, s7 = .pointer (some ⟨g, 0, none⟩) ∧ s8 = .bool ok ∧ s9 = .int .i64 er ∧ SlotAt wx g ⟨x0, xm, x2, x3⟩ ∧ SinceOf z3.wd wx)
  case first =>
    go_region_held3 (fun w' => w'.cell? ⟨w.heap.size, 0, none⟩ = some (.slice s.A s.cals.length s.c) ∧ w'.cell? ⟨w.heap.size, 1, none⟩ = some (.slice s.B s.rows.length s.d) ∧ w'.cell? ⟨w.heap.size, 2, none⟩ = some (.int .i64 s.most) ∧ w'.cell? ⟨w.heap.size, 3, none⟩ = some (.slice A L.length c)) ((simp [go_sem, *]))
      (first
        | (go_at_call 9; refine (own52b_any s _ (H.out.1.of (by (repeat (first | (with_reducible exact SinceOf.refl _) | (with_reducible assumption) | (with_reducible refine SinceOf.alloc ?_ _) | (with_reducible refine SinceOf.drew ?_) | (with_reducible refine SinceOf.drewN ?_ _) | (with_reducible refine SinceOf.later ?_ _) | (with_reducible refine SinceOf.further ?_ _) | (with_reducible refine SinceOf.setCell ?_ (by first | exact Nat.le_refl _ | (simp; done) | omega | (simp; omega)) _))))) (by omega)).mono ?_; rintro e _ ⟨cA, cc, rfl, hrc, hbc, ⟨y1, rfl⟩⟩)
        | (go_at_call 10; refine (jobs52b_any A c L _ (H.out.2.1.of (by (repeat (first | (with_reducible exact SinceOf.refl _) | (with_reducible assumption) | (with_reducible refine SinceOf.alloc ?_ _) | (with_reducible refine SinceOf.drew ?_) | (with_reducible refine SinceOf.drewN ?_ _) | (with_reducible refine SinceOf.later ?_ _) | (with_reducible refine SinceOf.further ?_ _) | (with_reducible refine SinceOf.setCell ?_ (by first | exact Nat.le_refl _ | (simp; done) | omega | (simp; omega)) _))))) (by omega)).mono ?_; rintro e _ ⟨jA, jc, rfl, hrj, hbj, ⟨y2, rfl⟩⟩)
        | (go_at_call 11; refine (slots_any B d l _ (H.out.2.2.1.of (by (repeat (first | (with_reducible exact SinceOf.refl _) | (with_reducible assumption) | (with_reducible refine SinceOf.alloc ?_ _) | (with_reducible refine SinceOf.drew ?_) | (with_reducible refine SinceOf.drewN ?_ _) | (with_reducible refine SinceOf.later ?_ _) | (with_reducible refine SinceOf.further ?_ _) | (with_reducible refine SinceOf.setCell ?_ (by first | exact Nat.le_refl _ | (simp; done) | omega | (simp; omega)) _))))) (by omega)).mono ?_; rintro e _ ⟨tA, tc, rfl, hsl, ⟨y3, rfl⟩⟩)
        | (go_at_call 8; refine (PD _ _ _ _ _ _ _ (shop_at H.out.1 (hrc.of (by (repeat (first | (with_reducible exact SinceOf.refl _) | (with_reducible assumption) | (with_reducible refine SinceOf.alloc ?_ _) | (with_reducible refine SinceOf.drew ?_) | (with_reducible refine SinceOf.drewN ?_ _) | (with_reducible refine SinceOf.later ?_ _) | (with_reducible refine SinceOf.further ?_ _) | (with_reducible refine SinceOf.setCell ?_ (by first | exact Nat.le_refl _ | (simp; done) | omega | (simp; omega)) _))))) (by (repeat (first | (with_reducible exact SinceOf.refl _) | (with_reducible assumption) | (with_reducible refine SinceOf.alloc ?_ _) | (with_reducible refine SinceOf.drew ?_) | (with_reducible refine SinceOf.drewN ?_ _) | (with_reducible refine SinceOf.later ?_ _) | (with_reducible refine SinceOf.further ?_ _) | (with_reducible refine SinceOf.setCell ?_ (by first | exact Nat.le_refl _ | (simp; done) | omega | (simp; omega)) _))))) (jobs_at H.out.2.1 (hrj.of (by (repeat (first | (with_reducible exact SinceOf.refl _) | (with_reducible assumption) | (with_reducible refine SinceOf.alloc ?_ _) | (with_reducible refine SinceOf.drew ?_) | (with_reducible refine SinceOf.drewN ?_ _) | (with_reducible refine SinceOf.later ?_ _) | (with_reducible refine SinceOf.further ?_ _) | (with_reducible refine SinceOf.setCell ?_ (by first | exact Nat.le_refl _ | (simp; done) | omega | (simp; omega)) _))))) (by (repeat (first | (with_reducible exact SinceOf.refl _) | (with_reducible assumption) | (with_reducible refine SinceOf.alloc ?_ _) | (with_reducible refine SinceOf.drew ?_) | (with_reducible refine SinceOf.drewN ?_ _) | (with_reducible refine SinceOf.later ?_ _) | (with_reducible refine SinceOf.further ?_ _) | (with_reducible refine SinceOf.setCell ?_ (by first | exact Nat.le_refl _ | (simp; done) | omega | (simp; omega)) _))))) ((hsl.isRow encS_len).of (by (repeat (first | (with_reducible exact SinceOf.refl _) | (with_reducible assumption) | (with_reducible refine SinceOf.alloc ?_ _) | (with_reducible refine SinceOf.drew ?_) | (with_reducible refine SinceOf.drewN ?_ _) | (with_reducible refine SinceOf.later ?_ _) | (with_reducible refine SinceOf.further ?_ _) | (with_reducible refine SinceOf.setCell ?_ (by first | exact Nat.le_refl _ | (simp; done) | omega | (simp; omega)) _))))) hsl.le_cap).calls.mono ?_; rintro e _ ⟨rfl, y4, rfl⟩))
    all_goals go_wp2_with fail
    all_goals go_meet
    all_goals
      have e1 := y1.size
      have e2 := y2.size
      have e3 := y3.size
      (try simp at e1)
      (try simp at e2)
      (try simp at e3)
      exact ⟨_, rfl, rfl, rfl, ⟨by simp [go_sem], by simp [go_sem], by simp [go_sem], by simp [go_sem], inferInstance⟩, by (repeat (first | (with_reducible exact SinceOf.refl _) | (with_reducible assumption) | (with_reducible refine SinceOf.alloc ?_ _) | (with_reducible refine SinceOf.drew ?_) | (with_reducible refine SinceOf.drewN ?_ _) | (with_reducible refine SinceOf.later ?_ _) | (with_reducible refine SinceOf.further ?_ _) | (with_reducible refine SinceOf.setCell ?_ (by first | exact Nat.le_refl _ | (simp; done) | omega | (simp; omega)) _)))⟩
  case rest =>
    obtain ⟨g, rfl, rfl, rfl, ⟨g0, g1, g2, g3, hOg⟩, ⟨y, rfl⟩⟩ := hcut
    simp only at g0 g1 g2 g3
    clear PD
    rcases H.out.2.2.2.2.2 with ⟨he0, rfl⟩ | ⟨rfl, hc, hg, jb, rfl, hjb, hok, hbest⟩
    · have her : (er != 0) = true := by simpa using he0
      clear he0
      go_wp2_with fail
      (with_reducible refine (RD _ (by (repeat (first | (with_reducible exact SinceOf.refl _) | (with_reducible assumption) | (with_reducible refine SinceOf.alloc ?_ _) | (with_reducible refine SinceOf.drew ?_) | (with_reducible refine SinceOf.drewN ?_ _) | (with_reducible refine SinceOf.later ?_ _) | (with_reducible refine SinceOf.further ?_ _) | (with_reducible refine SinceOf.setCell ?_ (by first | exact Nat.le_refl _ | (simp; done) | omega | (simp; omega)) _))))).calls.mono ?_)
      rintro e _ ⟨rfl, z4, rfl⟩
      go_wp2_with fail
      go_returns
      exact ⟨rfl, by (repeat (first | (with_reducible exact SinceOf.refl _) | (with_reducible assumption) | (with_reducible refine SinceOf.alloc ?_ _) | (with_reducible refine SinceOf.drew ?_) | (with_reducible refine SinceOf.drewN ?_ _) | (with_reducible refine SinceOf.later ?_ _) | (with_reducible refine SinceOf.further ?_ _) | (with_reducible refine SinceOf.setCell ?_ (by first | exact Nat.le_refl _ | (simp; done) | omega | (simp; omega)) _)))⟩
    · have CA := H.out.2.2.2.2.1 hc hg jb hjb
      have hmc := check_machs hc _ (List.getElem_mem hjb)
      have em : (jobAt L jb).ms = L[jb].ms := by rw [jobAt_at hjb]
      have ed : (jobAt L jb).dur = L[jb].dur := by rw [jobAt_at hjb]
      rw [em, ed] at hbest
      have hje := H.out.2.1.all _ (List.getElem_mem hjb)
      obtain ⟨gj, oj, hAj, hrj⟩ := H.out.2.1.row.at_ (by omega)
      have hOj := hrj.there
      have j0 := hrj.j0 jb hjb
      have j1 := hrj.j1 jb hjb
      have VX := H.out.2.2.2.1 ⟨x0, xm, x2, x3⟩
      have hve : ok = true → (validT s L (l ++ [⟨x0, xm, x2, x3⟩])).2 = 0 := hok
      generalize validT s L (l ++ [⟨x0, xm, x2, x3⟩]) = vt at *
      obtain ⟨vi, ve⟩ := vt
      simp only [List.length_append, List.length_singleton] at VX hve
      subst hAj
      generalize L[jb].ms = ms at *
      generalize L[jb].dur = dur at *
      have hml := hje.2
      have HG := Lib.hid (And.intro hbest (And.intro hmc (And.intro hje.1 (And.intro CA hve))))
      clear hbest hmc hje CA hve hok hc hg em ed hrj
      go_wp2_with fail
      (with_reducible refine (RD _ (by (repeat (first | (with_reducible exact SinceOf.refl _) | (with_reducible assumption) | (with_reducible refine SinceOf.alloc ?_ _) | (with_reducible refine SinceOf.drew ?_) | (with_reducible refine SinceOf.drewN ?_ _) | (with_reducible refine SinceOf.later ?_ _) | (with_reducible refine SinceOf.further ?_ _) | (with_reducible refine SinceOf.setCell ?_ (by first | exact Nat.le_refl _ | (simp; done) | omega | (simp; omega)) _))))).calls.mono ?_)
      rintro e _ ⟨rfl, z4, rfl⟩
      clear RD
      go_upto_region 11 with fail
      obtain ⟨V, hV⟩ : ∃ V, V = z4.wd.alloc (.cells #[.int .i64 x0, .int .i64 xm, .int .i64 x2, .int .i64 x3] 46) := ⟨_, rfl⟩
      have hzV : SinceOf z4.wd V := by rw [hV]; (repeat (first | (with_reducible exact SinceOf.refl _) | (with_reducible assumption) | (with_reducible refine SinceOf.alloc ?_ _) | (with_reducible refine SinceOf.drew ?_) | (with_reducible refine SinceOf.drewN ?_ _) | (with_reducible refine SinceOf.later ?_ _) | (with_reducible refine SinceOf.further ?_ _) | (with_reducible refine SinceOf.setCell ?_ (by first | exact Nat.le_refl _ | (simp; done) | omega | (simp; omega)) _)))
      have hzw : SinceOf w V := by rw [hV]; (repeat (first | (with_reducible exact SinceOf.refl _) | (with_reducible assumption) | (with_reducible refine SinceOf.alloc ?_ _) | (with_reducible refine SinceOf.drew ?_) | (with_reducible refine SinceOf.drewN ?_ _) | (with_reducible refine SinceOf.later ?_ _) | (with_reducible refine SinceOf.further ?_ _) | (with_reducible refine SinceOf.setCell ?_ (by first | exact Nat.le_refl _ | (simp; done) | omega | (simp; omega)) _)))
      have hv0 : V.cell? ⟨z4.wd.heap.size, 0, none⟩ = some (.int .i64 x0) := by rw [hV]; simp [go_sem]
      have hv1 : V.cell? ⟨z4.wd.heap.size, 1, none⟩ = some (.int .i64 xm) := by rw [hV]; simp [go_sem]
      have hv2 : V.cell? ⟨z4.wd.heap.size, 2, none⟩ = some (.int .i64 x2) := by rw [hV]; simp [go_sem]
      have hv3 : V.cell? ⟨z4.wd.heap.size, 3, none⟩ = some (.int .i64 x3) := by rw [hV]; simp [go_sem]
      have sv0 : V.cell? ⟨w.heap.size, 0, none⟩ = some (.slice s.A s.cals.length s.c) := by rw [hV]; simp [go_sem]
      have sv1 : V.cell? ⟨w.heap.size, 1, none⟩ = some (.slice s.B s.rows.length s.d) := by rw [hV]; simp [go_sem]
      have sv2 : V.cell? ⟨w.heap.size, 2, none⟩ = some (.int .i64 s.most) := by rw [hV]; simp [go_sem]
      have sv3 : V.cell? ⟨w.heap.size, 3, none⟩ = some (.slice (some ⟨gj, oj, none⟩) L.length c) := by rw [hV]; simp [go_sem]
      have hOG : Nonempty (Old V z4.wd.heap.size) := by rw [hV]; exact ⟨⟨by simp⟩⟩
      have hOS : Nonempty (Old V w.heap.size) := by rw [hV]; infer_instance
      go_cut [14] (fun s14 wx => s14 = .int .i64 ve ∧ SinceOf (z4.wd.alloc (.cells #[.int .i64 x0, .int .i64 xm, .int .i64 x2, .int .i64 x3] 46)) wx)
      case first =>
          rw [← hV]
          have RL := Lib.hid (H.out.2.2.1.of hzw)
          obtain ⟨hi2, hz0, hz1, hz2⟩ := HI.out
          have hs3 : SinceOf (z4.wd.alloc (.cells #[.int .i64 x0, .int .i64 xm, .int .i64 x2, .int .i64 x3] 46)) V := by rw [hV]; exact SinceOf.refl _
          clear hV g0 g1 g2 g3 j0 j1
          go_region_held3 (fun w' => w'.cell? ⟨w.heap.size, 0, none⟩ = some (.slice s.A s.cals.length s.c) ∧ w'.cell? ⟨w.heap.size, 1, none⟩ = some (.slice s.B s.rows.length s.d) ∧ w'.cell? ⟨w.heap.size, 2, none⟩ = some (.int .i64 s.most) ∧ w'.cell? ⟨w.heap.size, 3, none⟩ = some (.slice (some ⟨gj, oj, none⟩) L.length c) ∧ w'.cell? ⟨z4.wd.heap.size, 0, none⟩ = some (.int .i64 x0) ∧ w'.cell? ⟨z4.wd.heap.size, 1, none⟩ = some (.int .i64 xm) ∧ w'.cell? ⟨z4.wd.heap.size, 2, none⟩ = some (.int .i64 x2) ∧ w'.cell? ⟨z4.wd.heap.size, 3, none⟩ = some (.int .i64 x3)) ((simp [go_sem, *]))
           (first
            | (refine step_append_row rfl (.tmp 80) (.tmp 81) 29 rfl encS_len (by omega) encS_one ti _ 32 Try.underlying29 hi2 hz0 hz1 hz2 rfl (l := []) (c := 0) (base := V.heap.size) rfl ?own (m := l) (B := B) (d := d) rfl ?hm ?h63 ?hby ?hbase ?_
               case own => first | exact ownsS_empty _ _ (Nat.le_refl _) | exact (ownsS_empty _ _ (Nat.le_refl _)).alloc _ | (have q := ownsS_empty (V.alloc (.cells #[.int .i64 x0, .int .i64 xm, .int .i64 x2, .int .i64 x3] 46)) V.heap.size (by simp); rw [show (V.alloc (.cells #[.int .i64 x0, .int .i64 xm, .int .i64 x2, .int .i64 x3] 46)).heap.size = V.heap.size + 1 from by simp] at q; exact q)
               case hm => exact RL.out.of (by (repeat (first | (with_reducible exact SinceOf.refl _) | (with_reducible assumption) | (with_reducible refine SinceOf.alloc ?_ _) | (with_reducible refine SinceOf.drew ?_) | (with_reducible refine SinceOf.drewN ?_ _) | (with_reducible refine SinceOf.later ?_ _) | (with_reducible refine SinceOf.further ?_ _) | (with_reducible refine SinceOf.setCell ?_ (by first | exact Nat.le_refl _ | (simp; done) | omega | (simp; omega)) _))))
               case h63 => unfold maxLen; simp; omega
               case hby => simp; omega
               case hbase => first | (simp; done) | (simp; omega)
               intro A1 c1 w1 hown1 hgrow1 hb1
               have hs1 : SinceOf V w1 := SinceOf.grown (by (repeat (first | (with_reducible exact SinceOf.refl _) | (with_reducible assumption) | (with_reducible refine SinceOf.alloc ?_ _) | (with_reducible refine SinceOf.drew ?_) | (with_reducible refine SinceOf.drewN ?_ _) | (with_reducible refine SinceOf.later ?_ _) | (with_reducible refine SinceOf.further ?_ _) | (with_reducible refine SinceOf.setCell ?_ (by first | exact Nat.le_refl _ | (simp; done) | omega | (simp; omega)) _)))) hgrow1 (by intro q hq; simp [blockOf] at hq; omega)
               have hOS1 := oldS_since hs1 hOS
               have hOG1 := oldS_since hs1 hOG
               have sv01 := cell_since hs1 sv0
               have sv11 := cell_since hs1 sv1
               have sv21 := cell_since hs1 sv2
               have sv31 := cell_since hs1 sv3
               have hv01 := cell_since hs1 hv0
               have hv11 := cell_since hs1 hv1
               have hv21 := cell_since hs1 hv2
               have hv31 := cell_since hs1 hv3)
            | (refine step_append_row rfl (.tmp 82) (.tmp 84) 29 rfl encS_len (by omega) encS_one ti _ 32 Try.underlying29 hi2 hz0 hz1 hz2 rfl (l := [] ++ l) (A := A1) (c := c1) (base := V.heap.size) ?hs ?own (m := [⟨x0, xm, x2, x3⟩]) rfl ?hm ?h63 ?hby ?hbase ?_
               case hs => simp [Act.eval]
               case own => first | exact hown1.alloc _ | exact hown1
               case hm => first
                 | exact ⟨(by intro h; cases h), .inr ⟨_, _, rfl, rowS_one _ ⟨x0, xm, x2, x3⟩⟩⟩
                 | exact ⟨(by intro h; cases h), .inr ⟨_, _, rfl, RowAt.grown (RowAt.of (rowS_one V ⟨x0, xm, x2, x3⟩) (by (repeat (first | (with_reducible exact SinceOf.refl _) | (with_reducible assumption) | (with_reducible refine SinceOf.alloc ?_ _) | (with_reducible refine SinceOf.drew ?_) | (with_reducible refine SinceOf.drewN ?_ _) | (with_reducible refine SinceOf.later ?_ _) | (with_reducible refine SinceOf.further ?_ _) | (with_reducible refine SinceOf.setCell ?_ (by first | exact Nat.le_refl _ | (simp; done) | omega | (simp; omega)) _))))) hgrow1 (by simp [blockOf])⟩⟩
                 | (have q := rowS_one (V.alloc (.cells #[] 46)) ⟨x0, xm, x2, x3⟩
                    rw [show (V.alloc (.cells #[] 46)).heap.size = V.heap.size + 1 from by simp] at q
                    exact ⟨(by intro h; cases h), .inr ⟨_, _, rfl, RowAt.grown (RowAt.of q (by (repeat (first | (with_reducible exact SinceOf.refl _) | (with_reducible assumption) | (with_reducible refine SinceOf.alloc ?_ _) | (with_reducible refine SinceOf.drew ?_) | (with_reducible refine SinceOf.drewN ?_ _) | (with_reducible refine SinceOf.later ?_ _) | (with_reducible refine SinceOf.further ?_ _) | (with_reducible refine SinceOf.setCell ?_ (by first | exact Nat.le_refl _ | (simp; done) | omega | (simp; omega)) _))))) hgrow1 (by simp [blockOf])⟩⟩)
               case h63 => unfold maxLen; simp; omega
               case hby => simp; omega
               case hbase => (have := hs1.size; simp at this ⊢; omega)
               intro A2 c2 w2 hown2 hgrow2 hb2
               have hs2 : SinceOf V w2 := SinceOf.grown (by (repeat (first | (with_reducible exact SinceOf.refl _) | (with_reducible assumption) | (with_reducible refine SinceOf.alloc ?_ _) | (with_reducible refine SinceOf.drew ?_) | (with_reducible refine SinceOf.drewN ?_ _) | (with_reducible refine SinceOf.later ?_ _) | (with_reducible refine SinceOf.further ?_ _) | (with_reducible refine SinceOf.setCell ?_ (by first | exact Nat.le_refl _ | (simp; done) | omega | (simp; omega)) _)))) hgrow2 (by intro q hq; rw [hq] at hb1; simp [blockOf] at hb1; omega)
               have hcap2 : l.length + 1 ≤ c2 := by (have := hown2.le_cap; simp at this; omega)
               have hrow2 : IsSlots w2 A2 c2 (l ++ [⟨x0, xm, x2, x3⟩]) := hown2.isRow encS_len
               have VC := VX A2 c2 w2 (SinceOf.trans hzw hs2) hrow2 hcap2
               have hOS2 := oldS_since hs2 hOS
               have hOG2 := oldS_since hs2 hOG
               have sv02 := cell_since hs2 sv0
               have sv12 := cell_since hs2 sv1
               have sv22 := cell_since hs2 sv2
               have sv32 := cell_since hs2 sv3
               have hv02 := cell_since hs2 hv0
               have hv12 := cell_since hs2 hv1
               have hv22 := cell_since hs2 hv2
               have hv32 := cell_since hs2 hv3)
            | (go_at_call 13; refine VC.calls.mono ?_; rintro e _ ⟨rfl, zz9, rfl⟩))
          all_goals go_wp2_with fail
          all_goals go_meet
          all_goals exact ⟨rfl, SinceOf.trans hs3 (by (repeat (first | (with_reducible exact SinceOf.refl _) | (with_reducible assumption) | (with_reducible refine SinceOf.alloc ?_ _) | (with_reducible refine SinceOf.drew ?_) | (with_reducible refine SinceOf.drewN ?_ _) | (with_reducible refine SinceOf.later ?_ _) | (with_reducible refine SinceOf.further ?_ _) | (with_reducible refine SinceOf.setCell ?_ (by first | exact Nat.le_refl _ | (simp; done) | omega | (simp; omega)) _))))⟩
      case rest =>
        obtain ⟨rfl, ⟨z5, rfl⟩⟩ := hcut
        clear VX hV hzV hzw hv0 hv1 hv2 hv3 sv0 sv1 sv2 sv3 hOG hOS
        go_upto_region 12 with fail
        go_cut [93] (fun s93 wx => s93 = .bool false ∧ LaterOf z5.wd wx)
        case first =>
          have hve := HG.out.2.2.2.2
          clear j0 j1 g0 g1 g2 g3
          cases ok
          · clear hve
            go_wp2_with fail
            go_meet
            exact ⟨rfl, by (repeat (first | (with_reducible exact LaterOf.refl _) | (with_reducible refine LaterOf.alloc ?_ _) | (with_reducible refine LaterOf.drew ?_) | (with_reducible refine LaterOf.drewN ?_ _) | (with_reducible refine LaterOf.later ?_ _) | (with_reducible refine LaterOf.setCell ?_ (by first | exact Nat.le_refl _ | (simp; done) | omega | (simp; omega)) _)))⟩
          · obtain rfl : ve = 0 := hve rfl
            clear hve
            go_wp2_with fail
            go_meet
            exact ⟨rfl, by (repeat (first | (with_reducible exact LaterOf.refl _) | (with_reducible refine LaterOf.alloc ?_ _) | (with_reducible refine LaterOf.drew ?_) | (with_reducible refine LaterOf.drewN ?_ _) | (with_reducible refine LaterOf.later ?_ _) | (with_reducible refine LaterOf.setCell ?_ (by first | exact Nat.le_refl _ | (simp; done) | omega | (simp; omega)) _)))⟩
        case rest =>
          obtain ⟨rfl, ⟨z6, rfl⟩⟩ := hcut
          go_wp2_with fail
          go_loopg [101] ms.length (fun gas s101 wr => ∃ k : Nat, k ≤ ms.length ∧ ms.length - k ≤ gas ∧ s101 = .int .i64 k ∧ SinceOf z6.wd wr)
          case atStart => exact ⟨0, by omega, by omega, rfl, by (repeat (first | (with_reducible exact SinceOf.refl _) | (with_reducible assumption) | (with_reducible refine SinceOf.alloc ?_ _) | (with_reducible refine SinceOf.drew ?_) | (with_reducible refine SinceOf.drewN ?_ _) | (with_reducible refine SinceOf.later ?_ _) | (with_reducible refine SinceOf.further ?_ _) | (with_reducible refine SinceOf.setCell ?_ (by first | exact Nat.le_refl _ | (simp; done) | omega | (simp; omega)) _)))⟩
          case round =>
            obtain ⟨k, hk, hgas, rfl, ⟨z7, rfl⟩⟩ := hrel
            by_cases hlt : k < ms.length
            · have hmem := List.getElem_mem hlt
              obtain ⟨hm0, hm1⟩ := HG.out.2.1 _ hmem
              obtain ⟨gm, om, hAm, hrm⟩ := (HG.out.2.2.1.of (show SinceOf w z7.wd by (repeat (first | (with_reducible exact SinceOf.refl _) | (with_reducible assumption) | (with_reducible refine SinceOf.alloc ?_ _) | (with_reducible refine SinceOf.drew ?_) | (with_reducible refine SinceOf.drewN ?_ _) | (with_reducible refine SinceOf.later ?_ _) | (with_reducible refine SinceOf.further ?_ _) | (with_reducible refine SinceOf.setCell ?_ (by first | exact Nat.le_refl _ | (simp; done) | omega | (simp; omega)) _))))).at_ (by omega)
              have hOm := hrm.there
              have n0 := hrm.n0 k hlt
              have hbm := fun (u fe : Int) => HG.out.1 ms[k] u fe hmem
              generalize ms[k] = mv at *
              obtain ⟨mN, rfl⟩ : ∃ q : Nat, mv = q := ⟨mv.toNat, by omega⟩
              have hmN1 : mN < s.cals.length := by omega
              have CK := HG.out.2.2.2.1 mN hmN1
              obtain ⟨gc, oc, hAc, hrc⟩ := H.out.1.cals.row.at_ (by omega)
              have hOc := hrc.there
              have c0 := hrc.k0 mN hmN1
              have c1 := hrc.k1 mN hmN1
              have c2 := hrc.k2 mN hmN1
              have hka := H.out.1.cals.all _ (List.getElem_mem hmN1)
              have hef : ∀ u, finishAt s mN u dur = finishV s.cals[mN].P s.cals[mN].S s.cals[mN].D u dur := fun u => by unfold finishAt; rw [calAt_at hmN1]
              have HB := Lib.hid (And.intro hbm (And.intro hef hka))
              generalize s.cals[mN] = K at *
              clear hrm hrc hmem hm0 hm1 hbm hef hka
              generalize L[jb].A = Am at *
              obtain ⟨sA, sc, cals, sB, sd, R, most⟩ := s
              simp only at *
              subst hAm hAc
              go_wp2_with fail
              (with_reducible refine (CK _ (by (repeat (first | (with_reducible exact SinceOf.refl _) | (with_reducible assumption) | (with_reducible refine SinceOf.alloc ?_ _) | (with_reducible refine SinceOf.drew ?_) | (with_reducible refine SinceOf.drewN ?_ _) | (with_reducible refine SinceOf.later ?_ _) | (with_reducible refine SinceOf.further ?_ _) | (with_reducible refine SinceOf.setCell ?_ (by first | exact Nat.le_refl _ | (simp; done) | omega | (simp; omega)) _))))).mono ?_)
              rintro e _ ⟨A5, c5, rfl, hrow, ⟨z8, rfl⟩⟩
              have hcsl := candV_length ⟨some ⟨gc, oc, none⟩, sc, cals, sB, sd, R, most⟩ L l jb mN
              generalize hcs : candV ⟨some ⟨gc, oc, none⟩, sc, cals, sB, sd, R, most⟩ L l jb mN = cs at *
              have HR := Lib.hid (And.intro hrow hcs)
              clear hrow CK hcs
              go_wp2_with fail
              go_loopg [114] cs.length (fun gas s114 wr => ∃ i : Nat, i ≤ cs.length ∧ cs.length - i ≤ gas ∧ s114 = .int .i64 i ∧ SinceOf z8.wd wr)
              case atStart => exact ⟨0, by omega, by omega, rfl, by (repeat (first | (with_reducible exact SinceOf.refl _) | (with_reducible assumption) | (with_reducible refine SinceOf.alloc ?_ _) | (with_reducible refine SinceOf.drew ?_) | (with_reducible refine SinceOf.drewN ?_ _) | (with_reducible refine SinceOf.later ?_ _) | (with_reducible refine SinceOf.further ?_ _) | (with_reducible refine SinceOf.setCell ?_ (by first | exact Nat.le_refl _ | (simp; done) | omega | (simp; omega)) _)))⟩
              case round =>
                obtain ⟨i, hi, hgas2, rfl, ⟨z9, rfl⟩⟩ := hrel
                by_cases hlti : i < cs.length
                · obtain ⟨gt, ot, rfl, hrt⟩ := (HR.out.1.of (show SinceOf z8.wd z9.wd by (repeat (first | (with_reducible exact SinceOf.refl _) | (with_reducible assumption) | (with_reducible refine SinceOf.alloc ?_ _) | (with_reducible refine SinceOf.drew ?_) | (with_reducible refine SinceOf.drewN ?_ _) | (with_reducible refine SinceOf.later ?_ _) | (with_reducible refine SinceOf.further ?_ _) | (with_reducible refine SinceOf.setCell ?_ (by first | exact Nat.le_refl _ | (simp; done) | omega | (simp; omega)) _))))).at_ (by omega)
                  have hOt := hrt.there
                  have t0 := hrt.n0 i hlti
                  have hum : cs[i] ∈ cs := List.getElem_mem hlti
                  generalize cs[i] = u at *
                  have FI := fun W (hW : SinceOf w W) => refFinish_any (w := W) u dur (HB.out.2.2.of hW)
                  simp only [pairV] at FI
                  have hbu := fun fe => HB.out.1 u fe hum
                  rw [HB.out.2.1 u] at hbu
                  generalize finishV K.P K.S K.D u dur = fv at *
                  obtain ⟨fe, fr⟩ := fv
                  simp only at FI hbu
                  clear hrt hum
                  by_cases h0 : fr = 0
                  · subst h0
                    have VX := H.out.2.2.2.1 ⟨jb, mN, u, fe⟩
                    have hb2 := hbu fe rfl
                    clear hbu
                    generalize validT ⟨some ⟨gc, oc, none⟩, sc, cals, sB, sd, R, most⟩ L (l ++ [⟨jb, mN, u, fe⟩]) = vt at *
                    obtain ⟨vi2, ve2⟩ := vt
                    simp only [List.length_append, List.length_singleton] at VX hb2
                    have HX := Lib.hid hb2
                    clear hb2
                    go_wp2_with fail
                    refine region_later (by kernel_rfl) (by kernel_rfl) ?_
                    repeat (go_big_quiet_step ((with_reducible refine Gives.later (FI _ (by (repeat (first | (with_reducible exact SinceOf.refl _) | (with_reducible assumption) | (with_reducible refine SinceOf.alloc ?_ _) | (with_reducible refine SinceOf.drew ?_) | (with_reducible refine SinceOf.drewN ?_ _) | (with_reducible refine SinceOf.later ?_ _) | (with_reducible refine SinceOf.further ?_ _) | (with_reducible refine SinceOf.setCell ?_ (by first | exact Nat.le_refl _ | (simp; done) | omega | (simp; omega)) _))))))))
                    refine wpQuiet_nil ?_
                    rintro _ ⟨z10, rfl⟩
                    clear FI
                    go_upto_region 22 with fail
                    obtain ⟨V, hV⟩ : ∃ V, V = z10.wd := ⟨_, rfl⟩
                    have hzw : SinceOf w V := by rw [hV]; (repeat (first | (with_reducible exact SinceOf.refl _) | (with_reducible assumption) | (with_reducible refine SinceOf.alloc ?_ _) | (with_reducible refine SinceOf.drew ?_) | (with_reducible refine SinceOf.drewN ?_ _) | (with_reducible refine SinceOf.later ?_ _) | (with_reducible refine SinceOf.further ?_ _) | (with_reducible refine SinceOf.setCell ?_ (by first | exact Nat.le_refl _ | (simp; done) | omega | (simp; omega)) _)))
                    have sv0 : V.cell? ⟨w.heap.size, 0, none⟩ = some (.slice (some ⟨gc, oc, none⟩) cals.length sc) := by rw [hV]; simp [go_sem]
                    have sv1 : V.cell? ⟨w.heap.size, 1, none⟩ = some (.slice sB R.length sd) := by rw [hV]; simp [go_sem]
                    have sv2 : V.cell? ⟨w.heap.size, 2, none⟩ = some (.int .i64 most) := by rw [hV]; simp [go_sem]
                    have sv3 : V.cell? ⟨w.heap.size, 3, none⟩ = some (.slice (some ⟨gj, oj, none⟩) L.length c) := by rw [hV]; simp [go_sem]
                    have hOS : Nonempty (Old V w.heap.size) := by rw [hV]; infer_instance
                    go_cut [22] (fun s22 wx => s22 = .int .i64 ve2 ∧ SinceOf z10.wd wx)
                    case first =>
                      rw [← hV]
                      have RL := Lib.hid (H.out.2.2.1.of hzw)
                      obtain ⟨hi2, hz0, hz1, hz2⟩ := HI.out
                      have hs3 : SinceOf z10.wd V := by rw [hV]; exact SinceOf.refl _
                      clear hV g0 g1 g2 g3 j0 j1 t0 n0
                      go_region_held3 (fun w' => w'.cell? ⟨w.heap.size, 0, none⟩ = some (.slice (some ⟨gc, oc, none⟩) cals.length sc) ∧ w'.cell? ⟨w.heap.size, 1, none⟩ = some (.slice sB R.length sd) ∧ w'.cell? ⟨w.heap.size, 2, none⟩ = some (.int .i64 most) ∧ w'.cell? ⟨w.heap.size, 3, none⟩ = some (.slice (some ⟨gj, oj, none⟩) L.length c)) ((simp [go_sem, *]))
                       (first
                        | (refine step_append_row rfl (.tmp 142) (.tmp 143) 29 rfl encS_len (by omega) encS_one ti _ 32 Try.underlying29 hi2 hz0 hz1 hz2 rfl (l := []) (c := 0) (base := V.heap.size) rfl ?own (m := l) (B := B) (d := d) rfl ?hm ?h63 ?hby ?hbase ?_
                           case own => first | exact ownsS_empty _ _ (Nat.le_refl _) | exact (ownsS_empty _ _ (Nat.le_refl _)).alloc _ | (have q := ownsS_empty (V.alloc (.cells #[.int .i64 jb, .int .i64 mN, .int .i64 u, .int .i64 fe] 46)) V.heap.size (by simp); rw [show (V.alloc (.cells #[.int .i64 jb, .int .i64 mN, .int .i64 u, .int .i64 fe] 46)).heap.size = V.heap.size + 1 from by simp] at q; exact q)
                           case hm => exact RL.out.of (by (repeat (first | (with_reducible exact SinceOf.refl _) | (with_reducible assumption) | (with_reducible refine SinceOf.alloc ?_ _) | (with_reducible refine SinceOf.drew ?_) | (with_reducible refine SinceOf.drewN ?_ _) | (with_reducible refine SinceOf.later ?_ _) | (with_reducible refine SinceOf.further ?_ _) | (with_reducible refine SinceOf.setCell ?_ (by first | exact Nat.le_refl _ | (simp; done) | omega | (simp; omega)) _))))
                           case h63 => unfold maxLen; simp; omega
                           case hby => simp; omega
                           case hbase => first | (simp; done) | (simp; omega)
                           intro A1 c1 w1 hown1 hgrow1 hb1
                           have hs1 : SinceOf V w1 := SinceOf.grown (by (repeat (first | (with_reducible exact SinceOf.refl _) | (with_reducible assumption) | (with_reducible refine SinceOf.alloc ?_ _) | (with_reducible refine SinceOf.drew ?_) | (with_reducible refine SinceOf.drewN ?_ _) | (with_reducible refine SinceOf.later ?_ _) | (with_reducible refine SinceOf.further ?_ _) | (with_reducible refine SinceOf.setCell ?_ (by first | exact Nat.le_refl _ | (simp; done) | omega | (simp; omega)) _)))) hgrow1 (by intro q hq; simp [blockOf] at hq; omega)
                           have hOS1 := oldS_since hs1 hOS
                           have sv01 := cell_since hs1 sv0
                           have sv11 := cell_since hs1 sv1
                           have sv21 := cell_since hs1 sv2
                           have sv31 := cell_since hs1 sv3)
                        | (refine step_append_row rfl (.tmp 144) (.tmp 150) 29 rfl encS_len (by omega) encS_one ti _ 32 Try.underlying29 hi2 hz0 hz1 hz2 rfl (l := [] ++ l) (A := A1) (c := c1) (base := V.heap.size) ?hs ?own (m := [⟨jb, mN, u, fe⟩]) rfl ?hm ?h63 ?hby ?hbase ?_
                           case hs => simp [Act.eval]
                           case own => first | exact hown1.alloc _ | exact hown1
                           case hm => first
                             | exact ⟨(by intro h; cases h), .inr ⟨_, _, rfl, rowS_one _ ⟨jb, mN, u, fe⟩⟩⟩
                             | exact ⟨(by intro h; cases h), .inr ⟨_, _, rfl, RowAt.grown (RowAt.of (rowS_one V ⟨jb, mN, u, fe⟩) (by (repeat (first | (with_reducible exact SinceOf.refl _) | (with_reducible assumption) | (with_reducible refine SinceOf.alloc ?_ _) | (with_reducible refine SinceOf.drew ?_) | (with_reducible refine SinceOf.drewN ?_ _) | (with_reducible refine SinceOf.later ?_ _) | (with_reducible refine SinceOf.further ?_ _) | (with_reducible refine SinceOf.setCell ?_ (by first | exact Nat.le_refl _ | (simp; done) | omega | (simp; omega)) _))))) hgrow1 (by simp [blockOf])⟩⟩
                             | (have q := rowS_one (V.alloc (.cells #[] 46)) ⟨jb, mN, u, fe⟩
                                rw [show (V.alloc (.cells #[] 46)).heap.size = V.heap.size + 1 from by simp] at q
                                exact ⟨(by intro h; cases h), .inr ⟨_, _, rfl, RowAt.grown (RowAt.of q (by (repeat (first | (with_reducible exact SinceOf.refl _) | (with_reducible assumption) | (with_reducible refine SinceOf.alloc ?_ _) | (with_reducible refine SinceOf.drew ?_) | (with_reducible refine SinceOf.drewN ?_ _) | (with_reducible refine SinceOf.later ?_ _) | (with_reducible refine SinceOf.further ?_ _) | (with_reducible refine SinceOf.setCell ?_ (by first | exact Nat.le_refl _ | (simp; done) | omega | (simp; omega)) _))))) hgrow1 (by simp [blockOf])⟩⟩)
                           case h63 => unfold maxLen; simp; omega
                           case hby => simp; omega
                           case hbase => (have := hs1.size; simp at this ⊢; omega)
                           intro A2 c2 w2 hown2 hgrow2 hb2
                           have hs2 : SinceOf V w2 := SinceOf.grown (by (repeat (first | (with_reducible exact SinceOf.refl _) | (with_reducible assumption) | (with_reducible refine SinceOf.alloc ?_ _) | (with_reducible refine SinceOf.drew ?_) | (with_reducible refine SinceOf.drewN ?_ _) | (with_reducible refine SinceOf.later ?_ _) | (with_reducible refine SinceOf.further ?_ _) | (with_reducible refine SinceOf.setCell ?_ (by first | exact Nat.le_refl _ | (simp; done) | omega | (simp; omega)) _)))) hgrow2 (by intro q hq; rw [hq] at hb1; simp [blockOf] at hb1; omega)
                           have hcap2 : l.length + 1 ≤ c2 := by (have := hown2.le_cap; simp at this; omega)
                           have hrow2 : IsSlots w2 A2 c2 (l ++ [⟨jb, mN, u, fe⟩]) := hown2.isRow encS_len
                           have VC := VX A2 c2 w2 (SinceOf.trans hzw hs2) hrow2 hcap2
                           have hOS2 := oldS_since hs2 hOS
                           have sv02 := cell_since hs2 sv0
                           have sv12 := cell_since hs2 sv1
                           have sv22 := cell_since hs2 sv2
                           have sv32 := cell_since hs2 sv3)
                        | (go_at_call 13; refine VC.calls.mono ?_; rintro e _ ⟨rfl, zz9, rfl⟩))
                      all_goals go_wp2_with fail
                      all_goals go_meet
                      all_goals exact ⟨rfl, SinceOf.trans hs3 (by (repeat (first | (with_reducible exact SinceOf.refl _) | (with_reducible assumption) | (with_reducible refine SinceOf.alloc ?_ _) | (with_reducible refine SinceOf.drew ?_) | (with_reducible refine SinceOf.drewN ?_ _) | (with_reducible refine SinceOf.later ?_ _) | (with_reducible refine SinceOf.further ?_ _) | (with_reducible refine SinceOf.setCell ?_ (by first | exact Nat.le_refl _ | (simp; done) | omega | (simp; omega)) _))))⟩
                    case rest =>
                      obtain ⟨rfl, ⟨z11, rfl⟩⟩ := hcut
                      clear VX hV hzw sv0 sv1 sv2 sv3 hOS
                      by_cases hv2 : ve2 = 0
                      · subst hv2
                        obtain ⟨hok2, hnl⟩ := HX.out rfl
                        subst hok2
                        have hd : decide (fe < x3) = false := by simpa using hnl
                        clear hnl
                        go_wp2_with fail
                        go_roundg (cs.length - (i + 1))
                        case measure => omega
                        case rel => exact ⟨i + 1, hlti, Nat.le_refl _, by go_num, by (repeat (first | (with_reducible exact SinceOf.refl _) | (with_reducible assumption) | (with_reducible refine SinceOf.alloc ?_ _) | (with_reducible refine SinceOf.drew ?_) | (with_reducible refine SinceOf.drewN ?_ _) | (with_reducible refine SinceOf.later ?_ _) | (with_reducible refine SinceOf.further ?_ _) | (with_reducible refine SinceOf.setCell ?_ (by first | exact Nat.le_refl _ | (simp; done) | omega | (simp; omega)) _)))⟩
                      · have hd : (ve2 == 0) = false := by simpa using hv2
                        clear hv2
                        go_wp2_with fail
                        go_roundg (cs.length - (i + 1))
                        case measure => omega
                        case rel => exact ⟨i + 1, hlti, Nat.le_refl _, by go_num, by (repeat (first | (with_reducible exact SinceOf.refl _) | (with_reducible assumption) | (with_reducible refine SinceOf.alloc ?_ _) | (with_reducible refine SinceOf.drew ?_) | (with_reducible refine SinceOf.drewN ?_ _) | (with_reducible refine SinceOf.later ?_ _) | (with_reducible refine SinceOf.further ?_ _) | (with_reducible refine SinceOf.setCell ?_ (by first | exact Nat.le_refl _ | (simp; done) | omega | (simp; omega)) _)))⟩
                  · have h0' : (fr != 0) = true := by simpa using h0
                    clear h0 hbu
                    go_wp2_with fail
                    refine region_later (by kernel_rfl) (by kernel_rfl) ?_
                    repeat (go_big_quiet_step ((with_reducible refine Gives.later (FI _ (by (repeat (first | (with_reducible exact SinceOf.refl _) | (with_reducible assumption) | (with_reducible refine SinceOf.alloc ?_ _) | (with_reducible refine SinceOf.drew ?_) | (with_reducible refine SinceOf.drewN ?_ _) | (with_reducible refine SinceOf.later ?_ _) | (with_reducible refine SinceOf.further ?_ _) | (with_reducible refine SinceOf.setCell ?_ (by first | exact Nat.le_refl _ | (simp; done) | omega | (simp; omega)) _))))))))
                    refine wpQuiet_nil ?_
                    rintro _ ⟨z10, rfl⟩
                    go_wp2_with fail
                    go_roundg (cs.length - (i + 1))
                    case measure => omega
                    case rel => exact ⟨i + 1, hlti, Nat.le_refl _, by go_num, by (repeat (first | (with_reducible exact SinceOf.refl _) | (with_reducible assumption) | (with_reducible refine SinceOf.alloc ?_ _) | (with_reducible refine SinceOf.drew ?_) | (with_reducible refine SinceOf.drewN ?_ _) | (with_reducible refine SinceOf.later ?_ _) | (with_reducible refine SinceOf.further ?_ _) | (with_reducible refine SinceOf.setCell ?_ (by first | exact Nat.le_refl _ | (simp; done) | omega | (simp; omega)) _)))⟩
                · have hil : i = cs.length := by omega
                  go_wp2_with fail
                  go_roundg (ms.length - (k + 1))
                  case measure => omega
                  case rel => exact ⟨k + 1, hlt, Nat.le_refl _, by go_num, by (repeat (first | (with_reducible exact SinceOf.refl _) | (with_reducible assumption) | (with_reducible refine SinceOf.alloc ?_ _) | (with_reducible refine SinceOf.drew ?_) | (with_reducible refine SinceOf.drewN ?_ _) | (with_reducible refine SinceOf.later ?_ _) | (with_reducible refine SinceOf.further ?_ _) | (with_reducible refine SinceOf.setCell ?_ (by first | exact Nat.le_refl _ | (simp; done) | omega | (simp; omega)) _)))⟩
            · have hkl : k = ms.length := by omega
              go_wp2_with fail
              go_returns
              exact ⟨rfl, by (repeat (first | (with_reducible exact SinceOf.refl _) | (with_reducible assumption) | (with_reducible refine SinceOf.alloc ?_ _) | (with_reducible refine SinceOf.drew ?_) | (with_reducible refine SinceOf.drewN ?_ _) | (with_reducible refine SinceOf.later ?_ _) | (with_reducible refine SinceOf.further ?_ _) | (with_reducible refine SinceOf.setCell ?_ (by first | exact Nat.le_refl _ | (simp; done) | omega | (simp; omega)) _)))⟩
end Go.Proofs.Ytdcncalcncomoaa
