/- Layer 15: slices.SortStableFunc puts rows of vectors in order, whatever their number. -/
import Derived.Test.YtbienlhofkfdpaaMinkS4
import Derived.Sort.WalkA
namespace Go.Proofs.Ytbienlhofkfdpaa
open Go.RowKit Go.Sort
set_option linter.unusedVariables false
set_option linter.unusedSimpArgs false
attribute [local go_sem ↓] Go.wp_at_zero Go.wp_at_succ

/-- Insertion sort, at lists. -/
def insI (lt : Pt → Pt → Bool) (a : Nat) : Nat → List Pt → List Pt
  | 0, l => l
  | j + 1, l => if a < j + 1 ∧ lt (at0 l (j + 1)) (at0 l j) = true then insI lt a j (swp2 l (j + 1) j) else l
theorem get_at0 (l : List Pt) (i : Nat) : l.toArray[i]! = at0 l i := by
  unfold at0
  by_cases h : i < l.length
  · simp [h, List.getD_eq_getElem?_getD]
  · simp [h, List.getD_eq_getElem?_getD]; rfl
theorem swp_list (l : List Pt) (i j : Nat) : swp l.toArray i j = (swp2 l i j).toArray := by
  unfold swp swp2
  rw [get_at0, get_at0]
  simp
theorem insInner_list (lt : Pt → Pt → Bool) (a : Nat) : ∀ (j : Nat) (l : List Pt), insInner lt a j l.toArray = (insI lt a j l).toArray
  | 0, l => by rw [insInner_stop lt a 0 _ (.inl (Nat.zero_le _))]; rfl
  | j + 1, l => by
    unfold insI
    by_cases h : a < j + 1 ∧ lt (at0 l (j + 1)) (at0 l j) = true
    · rw [if_pos h, insInner_go lt a (j + 1) _ h.1 (by rw [get_at0, Nat.add_sub_cancel, get_at0]; exact h.2), Nat.add_sub_cancel, swp_list]
      exact insInner_list lt a j _
    · rw [if_neg h, insInner_stop lt a (j + 1) _ (by
        rw [get_at0, Nat.add_sub_cancel, get_at0]
        by_cases q : a < j + 1
        · right
          cases e : lt (at0 l (j + 1)) (at0 l j)
          · rfl
          · exact absurd ⟨q, e⟩ h
        · left; omega)]
section
variable {D : Pt → Prop} {lt : Pt → Pt → Bool} {a b : Nat}
theorem insI_spec (hO : OrdOn D lt) : ∀ (j : Nat) (l : List Pt), (∀ x ∈ l, D x) → a ≤ j → j < b → b ≤ l.length → (∀ i k, a ≤ i → i < k → k < b → k ≠ j → lt (at0 l k) (at0 l i) = false) → Re l (insI lt a j l) a b ∧ Sd lt (insI lt a j l) a b
  | 0, l, hD, h1, h2, h3, hs => ⟨Re.refl _ _ _, fun i k q1 q2 q3 => hs i k q1 q2 q3 (by omega)⟩
  | j + 1, l, hD, h1, h2, h3, hs => by
    unfold insI
    by_cases h : a < j + 1 ∧ lt (at0 l (j + 1)) (at0 l j) = true
    · rw [if_pos h]
      have hr : Re l (swp2 l (j + 1) j) a b := Re.swp2 (by omega) (by omega) h3
      have hat := fun k => swp2_at (l := l) (i := j + 1) (j := j) (by omega) (by omega) k
      have := insI_spec hO j (swp2 l (j + 1) j) (hr.allD hD) (by omega) (by omega) (by rw [swp2_len]; exact h3) (fun i k q1 q2 q3 q4 => by
        rw [hat k, hat i, if_neg q4]
        by_cases e1 : k = j + 1
        · rw [if_pos e1]
          by_cases e2 : i = j
          · rw [if_pos e2]
            exact hO.asym _ _ (at0_D hD (by omega)) (at0_D hD (by omega)) h.2
          · rw [if_neg e2, if_neg (by omega)]
            exact hs i j q1 (by omega) (by omega) (by omega)
        · rw [if_neg e1]
          by_cases e2 : i = j
          · rw [if_pos e2]
            exact hs (j + 1) k (by omega) (by omega) q3 e1
          · rw [if_neg e2]
            by_cases e3 : i = j + 1
            · rw [if_pos e3]
              exact hs j k (by omega) (by omega) q3 e1
            · rw [if_neg e3]
              exact hs i k q1 q2 q3 e1)
      exact ⟨hr.trans this.1, this.2⟩
    · rw [if_neg h]
      refine ⟨Re.refl _ _ _, fun i k q1 q2 q3 => ?_⟩
      by_cases e1 : k = j + 1
      · subst e1
        have hlt : lt (at0 l (j + 1)) (at0 l j) = false := by
          cases e : lt (at0 l (j + 1)) (at0 l j)
          · rfl
          · exact absurd ⟨by omega, e⟩ h
        by_cases e2 : i = j
        · rw [e2]; exact hlt
        · exact hO.ntrans _ _ _ (at0_D hD (by omega)) (at0_D hD (by omega)) (at0_D hD (by omega)) (hs i j q1 (by omega) (by omega) (by omega)) hlt
      · exact hs i k q1 q2 q3 e1
theorem insO_spec (hO : OrdOn D lt) : ∀ (n i : Nat) (l : List Pt), b - i ≤ n → (∀ x ∈ l, D x) → a < i → b ≤ l.length → Sd lt l a i → ∃ l', insOuter lt a b i l.toArray = l'.toArray ∧ Re l l' a b ∧ Sd lt l' a b
  | 0, i, l, hn, hD, h1, h3, hs => ⟨l, insOuter_stop lt a b i _ (by omega), Re.refl _ _ _, hs.sub (Nat.le_refl _) (by omega)⟩
  | n + 1, i, l, hn, hD, h1, h3, hs => by
    by_cases hi : i < b
    · obtain ⟨r1, r2⟩ := insI_spec hO (a := a) (b := i + 1) i l hD (by omega) (by omega) (by omega) (fun x y q1 q2 q3 q4 => hs x y q1 q2 (by omega))
      obtain ⟨l', e, r3, r4⟩ := insO_spec hO n (i + 1) (insI lt a i l) (by omega) (r1.allD hD) (by omega) (by rw [r1.len]; exact h3) r2
      exact ⟨l', by rw [insOuter_go lt a b i _ hi, insInner_list]; exact e, (r1.mono (Nat.le_refl _) (by omega)).trans r3, r4⟩
    · exact ⟨l, insOuter_stop lt a b i _ hi, Re.refl _ _ _, hs.sub (Nat.le_refl _) (by omega)⟩
theorem insertion_spec (hO : OrdOn D lt) (l : List Pt) (hD : ∀ x ∈ l, D x) (h3 : b ≤ l.length) : Re l (insertionSort lt l.toArray a b).toList a b ∧ Sd lt (insertionSort lt l.toArray a b).toList a b := by
  obtain ⟨l', e, r1, r2⟩ := insO_spec hO (a := a) (b := b) (b - (a + 1)) (a + 1) l (Nat.le_refl _) hD (by omega) h3 (fun i j q1 q2 q3 => absurd q2 (by omega))
  have : insertionSort lt l.toArray a b = l'.toArray := e
  rw [this]
  exact ⟨r1, r2⟩
end
/-- The blocks from the s-th on are in order. -/
def Bl (lt : Pt → Pt → Bool) (L : List Pt) (bs n : Nat) (s : Nat) : Prop := Sd lt L (s * bs) (min (s * bs + bs) n)
theorem bl_two {lt : Pt → Pt → Bool} {L : List Pt} {bs n t : Nat} : (2 * t) * bs = t * (2 * bs) := by rw [Nat.mul_comm 2 t, Nat.mul_assoc]
theorem bl_none {lt : Pt → Pt → Bool} {L : List Pt} {bs n s : Nat} (h : n ≤ s * bs) : Bl lt L bs n s := fun i j q1 q2 q3 => absurd q3 (by rw [Nat.min_eq_right (by omega)]; omega)
theorem mul_lt_of {s t bs : Nat} (h : s < t) : s * bs + bs ≤ t * bs := by
  have := Nat.mul_le_mul_right bs (show s + 1 ≤ t from h)
  rw [Nat.succ_mul] at this
  exact this

set_option maxRecDepth 100000 in
set_option maxHeartbeats 8000000 in
theorem stableC_any {D : Pt → Prop} (hO : OrdOn D (ltOf ecmp)) (b7 g off c : Nat) (l : List (Int × Int)) (w : World) (hL : Live encV 2 w g off l) (hC : CmpAt w b7 g) (hD : ∀ x ∈ l, D x) (hn : l.length ≤ 100000) :
    Calls Try.prog 93 #[.slice (some ⟨g, off, none⟩) l.length c, .int .i64 l.length, fvE b7] w (SymRes w g off l 0 l.length) := by
  have I := fun (a b : Nat) (L : List Pt) (W : World) (hlv : Live encV 2 W g off L) (hc : CmpAt W b7 g) (hl : L.length = l.length) (hab : a ≤ b) (hb : b ≤ l.length) => (by
    have := insert_any g off c b7 a b L W hlv (by omega) hab (by omega) hc.cell ⟨⟨hc.lt⟩⟩ hc.ne
    rw [hl] at this
    exact this : Calls Try.prog 114 #[.slice (some ⟨g, off, none⟩) l.length c, .int .i64 a, .int .i64 b, fvE b7] W _)
  have M := fun (a m b : Nat) (L : List Pt) (W : World) (hlv : Live encV 2 W g off L) (hc : CmpAt W b7 g) (hd : ∀ x ∈ L, D x) (hl : L.length = l.length) (h1 : a < m) (h2 : m < b) (h3 : b ≤ l.length) (s1 : Sd (ltOf ecmp) L a m) (s2 : Sd (ltOf ecmp) L m b) => (by
    have := symMerge_any hO b7 g off c (b - a) a m b L W (Nat.le_refl _) hlv hc hd (by omega) h1 h2 (by omega) s1 s2
    rw [hl] at this
    exact this : Calls Try.prog 115 #[.slice (some ⟨g, off, none⟩) l.length c, .int .i64 a, .int .i64 m, .int .i64 b, fvE b7] W _)
  have H := Lib.hid (And.intro hL (And.intro hC (And.intro hO (And.intro hD (And.intro I M)))))
  clear hL hC hD hO I M
  unfold SymRes fvE
  obtain ⟨n, hnn⟩ : ∃ n, n = l.length := ⟨_, rfl⟩
  rw [← hnn] at hn ⊢
  have HN := Lib.hid hnn
  clear hnn
  go_enter Try.func93, Try.ntmps93
  go_wp2_with fail
  go_loopg [7, 8] n (fun gas s7 s8 wr => ∃ (t : Nat) (L : List Pt), t * 20 ≤ n ∧ n - t * 20 ≤ gas ∧ s7 = .int .i64 ((t * 20 : Nat) : Int) ∧ s8 = .int .i64 ((t * 20 + 20 : Nat) : Int) ∧ Live encV 2 wr g off L ∧ Re l L 0 n ∧ (∀ s, s < t → Bl (ltOf ecmp) L 20 n s) ∧ w.grownBy wr (some g))
  case atStart => exact ⟨0, l, by omega, by omega, rfl, rfl, H.out.1, Re.refl _ _ _, fun s hs => absurd hs (by omega), World.grownBy.refl _ _⟩
  case round =>
    obtain ⟨t, L, htn, hgas, rfl, rfl, hlv, hre, hbl, hgr⟩ := hrel
    obtain ⟨u, rfl⟩ : ∃ u, u = wr := ⟨_, rfl⟩
    obtain ⟨A, hA⟩ : ∃ A, A = t * 20 := ⟨_, rfl⟩
    rw [← hA] at htn hgas ⊢
    obtain ⟨B, hB⟩ : ∃ B, B = A + 20 := ⟨_, rfl⟩
    rw [← hB]
    have hAB1 : B ≤ A + 20 := by omega
    have hAB2 : A + 20 ≤ B := by omega
    have hAn : A ≤ n := by omega
    have hcm := H.out.2.1.kept hgr
    have hll : L.length = l.length := hre.len
    have hdl := hre.allD H.out.2.2.2.1
    by_cases hlt : B ≤ n
    · have I := H.out.2.2.2.2.1 A B L u hlv hcm hll (by omega) (by rw [← HN.out]; exact hlt)
      rw [← HN.out] at I
      unfold fvE at I
      obtain ⟨r1, r2⟩ := insertion_spec H.out.2.2.1 (a := A) (b := B) L hdl (by rw [hll, ← HN.out]; exact hlt)
      have hbl' : ∀ s, s < t + 1 → Bl (ltOf ecmp) (insertionSort (ltOf ecmp) L.toArray A B).toList 20 n s := fun s hs => by
        rcases Nat.lt_or_ge s t with q | q
        · have := hbl s q
          unfold Bl at this ⊢
          exact this.out r1 (.inl (by omega))
        · obtain rfl : s = t := by omega
          unfold Bl
          rw [← hA, Nat.min_eq_left (by omega), ← hB]
          exact r2
      have HS := Lib.hid (And.intro hbl' (And.intro (hre.trans (r1.mono (Nat.zero_le _) hlt)) (And.intro hgr (And.intro hA hB))))
      have hgas2 : n - B < n - A := by omega
      have hBn : decide ((B : Int) ≤ (n : Int)) = true := decide_eq_true (by omega)
      clear hbl hre hgr hlv hcm hdl r1 r2 hbl' hA hB hll hAB1 hAB2
      go_wp2_with fail
      refine I.mono ?_
      rintro e w9 ⟨rfl, hl9, hg9⟩
      have HR := Lib.hid (And.intro hl9 hg9)
      clear I hl9 hg9
      go_wp2_with fail
      go_roundg (n - B)
      case measure => have := HS.out.2.2.2; omega
      case rel => exact ⟨t + 1, _, by have := HS.out.2.2.2; omega, by have := HS.out.2.2.2; omega, (by have := HS.out.2.2.2; congr 1; omega), (by have := HS.out.2.2.2; congr 1; omega), HR.out.1, HS.out.2.1, HS.out.1, HS.out.2.2.1.trans HR.out.2⟩
    · have I := H.out.2.2.2.2.1 A n L u hlv hcm hll (by omega) (by rw [HN.out]; exact Nat.le_refl _)
      rw [← HN.out] at I
      unfold fvE at I
      obtain ⟨r1, r2⟩ := insertion_spec H.out.2.2.1 (a := A) (b := n) L hdl (by rw [hll, ← HN.out]; exact Nat.le_refl _)
      have hbl' : ∀ s, Bl (ltOf ecmp) (insertionSort (ltOf ecmp) L.toArray A n).toList 20 n s := fun s => by
        rcases Nat.lt_trichotomy s t with q | q | q
        · have := hbl s q
          unfold Bl at this ⊢
          exact this.out r1 (.inl (by omega))
        · subst q
          unfold Bl
          rw [← hA, Nat.min_eq_right (by omega)]
          exact r2
        · exact bl_none (by omega)
      have HS := Lib.hid (And.intro hbl' (And.intro (hre.trans (r1.mono (Nat.zero_le _) (Nat.le_refl _))) hgr))
      have hBn : decide ((B : Int) ≤ (n : Int)) = false := decide_eq_false (by omega)
      clear hbl hre hgr hlv hcm hdl r1 r2 hbl' hA hB hll hAB1 hAB2
      go_wp2_with fail
      refine I.mono ?_
      rintro e w9 ⟨rfl, hl9, hg9⟩
      have HR := Lib.hid (And.intro hl9 (HS.out.2.2.trans hg9))
      clear I hl9 hg9
      go_wp2_with fail
      go_loopg [6, 7, 8] n (fun gas s6 s7 s8 wr => ∃ (bs : Nat) (L : List Pt), 20 ≤ bs ∧ bs ≤ 2 * n + 20 ∧ n - bs ≤ gas ∧ s6 = .int .i64 (bs : Int) ∧ Live encV 2 wr g off L ∧ Re l L 0 n ∧ (∀ s, Bl (ltOf ecmp) L bs n s) ∧ w.grownBy wr (some g))
      case atStart => exact ⟨20, _, by omega, by omega, by omega, rfl, HR.out.1, HS.out.2.1, HS.out.1, HR.out.2⟩
      case round =>
        clear HS HR
        obtain ⟨bs, L, hb20, hb2, hgas, rfl, hlv, hre, hbl, hgr⟩ := hrel
        obtain ⟨u, rfl⟩ : ∃ u, u = wr := ⟨_, rfl⟩
        have HB := Lib.hid (And.intro hlv (And.intro hre (And.intro hbl hgr)))
        clear hlv hre hbl hgr
        by_cases hlt : bs < n
        · obtain ⟨b2, hb2d⟩ : ∃ b2, b2 = 2 * bs := ⟨_, rfl⟩
          have hbu1 : b2 ≤ 2 * bs := by omega
          have hbu2 : 2 * bs ≤ b2 := by omega
          have HB2 := Lib.hid hb2d
          have e1 : 2 * (bs : Int) = (b2 : Int) := by omega
          have e2 : (bs : Int) * 2 = (b2 : Int) := by omega
          have wb : IntKind.i64.wrap (b2 : Int) = (b2 : Int) := IntWalk.i64_in _ (by omega)
          clear hb2d
          go_wp2_with fail
          go_loopg [7, 8] n (fun gas s7 s8 wr => ∃ (t : Nat) (L : List Pt), t * b2 ≤ n ∧ n - t * b2 ≤ gas ∧ s7 = .int .i64 ((t * b2 : Nat) : Int) ∧ s8 = .int .i64 ((t * b2 + b2 : Nat) : Int) ∧ Live encV 2 wr g off L ∧ Re l L 0 n ∧ (∀ s, s < t → Bl (ltOf ecmp) L b2 n s) ∧ (∀ s, 2 * t ≤ s → Bl (ltOf ecmp) L bs n s) ∧ w.grownBy wr (some g))
          case atStart => exact ⟨0, L, by omega, by omega, (by first | rfl | simp), (by first | rfl | simp), HB.out.1, HB.out.2.1, fun s hs => absurd hs (by omega), fun s _ => HB.out.2.2.1 s, HB.out.2.2.2⟩
          case round =>
            clear HB
            obtain ⟨t, L, htn, hgas3, rfl, rfl, hlv, hre, hbl, hbl2, hgr⟩ := hrel
            obtain ⟨u, rfl⟩ : ∃ u, u = wr := ⟨_, rfl⟩
            have d0 : (2 * t) * bs = t * b2 := by rw [HB2.out]; exact bl_two (lt := ltOf ecmp) (L := L) (n := n)
            have d1 : (2 * t + 1) * bs = t * b2 + bs := by rw [Nat.succ_mul, d0]
            have d2 : (t + 1) * b2 = t * b2 + b2 := Nat.succ_mul _ _
            have S0 := hbl2 (2 * t) (Nat.le_refl _)
            have S1 := hbl2 (2 * t + 1) (by omega)
            unfold Bl at S0 S1
            rw [d0] at S0
            rw [d1] at S1
            obtain ⟨A, hA⟩ : ∃ A, A = t * b2 := ⟨_, rfl⟩
            rw [← hA] at d0 d1 d2 S0 S1 htn hgas3 ⊢
            obtain ⟨B, hB⟩ : ∃ B, B = A + b2 := ⟨_, rfl⟩
            rw [← hB]
            obtain ⟨m, hm⟩ : ∃ m, m = A + bs := ⟨_, rfl⟩
            have e3 : (A : Int) + (bs : Int) = (m : Int) := by omega
            have hmu1 : m ≤ A + bs := by omega
            have hmu2 : A + bs ≤ m := by omega
            have hBu1 : B ≤ A + b2 := by omega
            have hBu2 : A + b2 ≤ B := by omega
            rw [← hm] at S0 S1 d1
            have hcm := H.out.2.1.kept hgr
            have hll : L.length = l.length := hre.len
            have hdl := hre.allD H.out.2.2.2.1
            have old : ∀ {L' : List Pt} {b : Nat}, Re L L' A b → ∀ s, s < t → Bl (ltOf ecmp) L' b2 n s := fun {L' b} hr s hs => by
              have := hbl s hs
              have q := mul_lt_of (bs := b2) hs
              unfold Bl at this ⊢
              exact this.out hr (.inl (by omega))
            by_cases hBn : B ≤ n
            · rw [Nat.min_eq_left (by omega)] at S0 S1
              have I := H.out.2.2.2.2.2 A m B L u hlv hcm hdl hll (by omega) (by omega) (by rw [← HN.out]; exact hBn) S0 (by rw [show B = m + bs by omega]; exact S1)
              rw [← HN.out] at I
              unfold SymRes fvE at I
              have fin : ∀ L', Re L L' A B → Sd (ltOf ecmp) L' A B → Re l L' 0 n ∧ (∀ s, s < t + 1 → Bl (ltOf ecmp) L' b2 n s) ∧ (∀ s, 2 * (t + 1) ≤ s → Bl (ltOf ecmp) L' bs n s) := fun L' r1 r2 => by
                refine ⟨hre.trans (r1.mono (Nat.zero_le _) hBn), fun s hs => ?_, fun s hs => ?_⟩
                · rcases Nat.lt_or_ge s t with q | q
                  · exact old r1 s q
                  · obtain rfl : s = t := by omega
                    unfold Bl
                    rw [← hA, ← hB, Nat.min_eq_left hBn]
                    exact r2
                · have := hbl2 s (by omega)
                  have q := mul_lt_of (s := 2 * t + 1) (t := s) (bs := bs) (by omega)
                  unfold Bl at this ⊢
                  exact this.out r1 (.inr (by omega))
              have HF := Lib.hid (And.intro fin (And.intro hgr (And.intro hA (And.intro hB d2))))
              have hgas4 : n - B < n - A := by omega
              have hBb : B < 1000000 := by omega
              have hAb : A < 1000000 := by omega
              have hmb : m < 1000000 := by omega
              have hb2b : b2 < 1000000 := by omega
              clear hbl hbl2 hre hgr hlv hcm hdl old fin d0 d1 d2 S0 S1 hA hB hm hll
              go_wp2_with fail
              refine I.mono ?_
              rintro e w9 ⟨rfl, L', hl9, hr1, hs1, hg9⟩
              have HR := Lib.hid (And.intro hl9 (And.intro (HF.out.1 L' hr1 hs1) (HF.out.2.1.trans hg9)))
              clear I hl9 hg9 hr1 hs1
              go_wp2_with fail
              go_roundg (n - B)
              case measure => omega
              case rel =>
                have q := HF.out.2.2
                exact ⟨t + 1, L', by omega, by omega, (by congr 1; omega), (by first | (congr 1; omega) | (simp; omega)), HR.out.1, HR.out.2.1.1, HR.out.2.1.2.1, HR.out.2.1.2.2, HR.out.2.2⟩
            · by_cases hmn : m < n
              · rw [Nat.min_eq_left (by omega)] at S0
                rw [Nat.min_eq_right (by omega)] at S1
                have I := H.out.2.2.2.2.2 A m n L u hlv hcm hdl hll (by omega) hmn (by rw [← HN.out]; exact Nat.le_refl _) S0 S1
                rw [← HN.out] at I
                unfold SymRes fvE at I
                have fin : ∀ L', Re L L' A n → Sd (ltOf ecmp) L' A n → Re l L' 0 n ∧ (∀ s, Bl (ltOf ecmp) L' b2 n s) := fun L' r1 r2 => by
                  refine ⟨hre.trans (r1.mono (Nat.zero_le _) (Nat.le_refl _)), fun s => ?_⟩
                  rcases Nat.lt_trichotomy s t with q | q | q
                  · exact old r1 s q
                  · subst q
                    unfold Bl
                    rw [← hA, ← hB, Nat.min_eq_right (by omega)]
                    exact r2
                  · have := mul_lt_of (bs := b2) q
                    exact bl_none (by omega)
                have HF := Lib.hid (And.intro fin (And.intro hgr trivial))
                have hAb : A < 1000000 := by omega
                have hBb : B < 1000000 := by omega
                have hBB : decide ((B : Int) ≤ (n : Int)) = false := decide_eq_false (by omega)
                clear hbl hbl2 hre hgr hlv hcm hdl old fin d0 d1 d2 S0 S1 hA hB hm hll
                go_wp2_with fail
                refine I.mono ?_
                rintro e w9 ⟨rfl, L', hl9, hr1, hs1, hg9⟩
                have HR := Lib.hid (And.intro hl9 (And.intro (HF.out.1 L' hr1 hs1) (HF.out.2.1.trans hg9)))
                clear I hl9 hg9 hr1 hs1
                go_wp2_with fail
                go_roundg (n - b2)
                case measure => omega
                case rel => exact ⟨b2, L', by omega, by omega, Nat.le_refl _, (by first | rfl | simp [e2]), HR.out.1, HR.out.2.1.1, HR.out.2.1.2, HR.out.2.2⟩
              · rw [Nat.min_eq_right (by omega)] at S0
                have fin : Re l L 0 n ∧ (∀ s, Bl (ltOf ecmp) L b2 n s) := by
                  refine ⟨hre, fun s => ?_⟩
                  rcases Nat.lt_trichotomy s t with q | q | q
                  · exact hbl s q
                  · subst q
                    unfold Bl
                    rw [← hA, ← hB, Nat.min_eq_right (by omega)]
                    exact S0
                  · have := mul_lt_of (bs := b2) q
                    exact bl_none (by omega)
                have HR := Lib.hid (And.intro hlv (And.intro fin hgr))
                have hAb : A < 1000000 := by omega
                have hBb : B < 1000000 := by omega
                have hBB : decide ((B : Int) ≤ (n : Int)) = false := decide_eq_false (by omega)
                clear hbl hbl2 hre hgr hlv hcm hdl old fin d0 d1 d2 S0 S1 hA hB hm hll
                go_wp2_with fail
                go_roundg (n - b2)
                case measure => omega
                case rel => exact ⟨b2, L, by omega, by omega, Nat.le_refl _, (by first | rfl | simp [e2]), HR.out.1, HR.out.2.1.1, HR.out.2.1.2, HR.out.2.2⟩
        · have hs : Sd (ltOf ecmp) L 0 n := by
            have := HB.out.2.2.1 0
            unfold Bl at this
            rw [Nat.zero_mul, Nat.min_eq_right (by omega)] at this
            exact this
          have HS := Lib.hid hs
          clear hs
          go_wp2_with fail
          go_end0
          exact ⟨rfl, L, HB.out.1, HB.out.2.1, HS.out, HB.out.2.2.2⟩
set_option maxRecDepth 100000 in
set_option maxHeartbeats 4000000 in
theorem stable_any {D : Pt → Prop} (hO : OrdOn D (ltOf ecmp)) (b7 g off c : Nat) (l : List (Int × Int)) (w : World) (hL : Live encV 2 w g off l) (hC : CmpAt w b7 g) (hD : ∀ x ∈ l, D x) (hn : l.length ≤ 100000) :
    Calls Try.prog 58 #[.slice (some ⟨g, off, none⟩) l.length c, fvE b7] w (SymRes w g off l 0 l.length) := by
  have I := stableC_any hO b7 g off c l w hL hC hD hn
  unfold SymRes fvE at *
  go_enter Try.func58, Try.ntmps58
  go_wp2_with fail
  refine I.mono ?_
  rintro e w' ⟨rfl, l', hl, hr, hs, hg⟩
  have HR := Lib.hid (And.intro hl (And.intro hr (And.intro hs hg)))
  clear hl hr hs hg I
  go_wp2_with fail
  go_end0
  exact ⟨rfl, l', HR.out.1, HR.out.2.1, HR.out.2.2.1, HR.out.2.2.2⟩
end Go.Proofs.Ytbienlhofkfdpaa
