/- Layer 46 (plain): the reference's kind of meeting is the program's. -/
import Derived.Test.YtkpnffokjpgalaaGreatKJntP1
import Derived.Test.YtkpnffokjpgalaaGreatKSeg1
import Derived.Test.YtkpnffokjpgalaaGreatKVecB
namespace Go.Proofs.YtkpnffokjpgalaaGreat
set_option linter.unusedVariables false
set_option linter.unusedSimpArgs false

theorem withinB_near {p : Pt} : withinB p.1 p.2 4000 = true ↔ near4 p := by
  unfold withinB near4
  rw [wneg_in (x := 4000) (by omega)]
  simp only [Bool.and_eq_true, decide_eq_true_eq]
  omega
theorem segOk_near {s : SegP} : segOk s = true ↔ near4 s.1 ∧ near4 s.2 := by
  unfold segOk
  rw [Bool.and_eq_true, withinB_near, withinB_near]
theorem near4_29 {p : Pt} (h : near4 p) : near29 p.1 ∧ near29 p.2 := by unfold near4 at h; unfold near29; omega
theorem turn_det {a b c : Pt} (ha : near4 a) (hb : near4 b) (hc : near4 c) : turnI a.1 a.2 b.1 b.2 c.1 c.2 = cmpi (det a b c) 0 := by
  have h1 := near4_29 ha
  have h2 := near4_29 hb
  have h3 := near4_29 hc
  exact turn_exact h1.1 h1.2 h2.1 h2.2 h3.1 h3.2
theorem cmpi_zero {x : Int} : cmpi x 0 = 0 ↔ x = 0 := by unfold cmpi; split <;> (try split) <;> omega
theorem onB_iff {s : SegP} {p : Pt} (hs : segOk s = true) (hp : near4 p) : onB s p = true ↔ onS s.1 s.2 p := by
  have h := segOk_near.1 hs
  unfold onB onS inX inSeg
  rw [hs, turn_det h.1 h.2 hp, Bool.true_and]
  simp only [Bool.and_eq_true, decide_eq_true_eq, cmpi_zero]
  constructor
  · rintro ⟨⟨⟨⟨h1, h2⟩, h3⟩, h4⟩, h5⟩; exact ⟨⟨h1, h2, h3, h4⟩, h5⟩
  · rintro ⟨⟨h1, h2, h3, h4⟩, h5⟩; exact ⟨⟨⟨⟨h1, h2⟩, h3⟩, h4⟩, h5⟩
theorem comL_mem {s t : SegP} (hs : segOk s = true) (ht : segOk t = true) (p : Pt) : p ∈ comL s t ↔ Com s.1 s.2 t.1 t.2 p := by
  have h1 := segOk_near.1 hs
  have h2 := segOk_near.1 ht
  unfold comL endsL bothB Com
  rw [List.mem_filter]
  simp only [List.mem_cons, List.not_mem_nil, or_false, Bool.and_eq_true]
  constructor
  · rintro ⟨he, ho⟩
    have hp : near4 p := by rcases he with rfl | rfl | rfl | rfl <;> simp [h1, h2]
    exact ⟨he, (onB_iff hs hp).1 ho.1, (onB_iff ht hp).1 ho.2⟩
  · rintro ⟨he, ho⟩
    have hp : near4 p := by rcases he with rfl | rfl | rfl | rfl <;> simp [h1, h2]
    exact ⟨he, (onB_iff hs hp).2 ho.1, (onB_iff ht hp).2 ho.2⟩
theorem sideI_det {s : SegP} {p : Pt} (hs : segOk s = true) (hp : near4 p) : sideI s p = cmpi (det s.1 s.2 p) 0 := by
  have h := segOk_near.1 hs
  unfold sideI
  rw [hs, withinB_near.2 hp, Bool.and_self, if_pos rfl, turn_det h.1 h.2 hp]
theorem sign_strict (x y : Int) : cmpi x 0 * cmpi y 0 < 0 ↔ strict x y := by
  unfold cmpi strict
  split <;> split <;> (try split) <;> (try split) <;> simp <;> omega
theorem crossB_iff {s t : SegP} (hs : segOk s = true) (ht : segOk t = true) : crossB s t = true ↔ Crosses s.1 s.2 t.1 t.2 := by
  have h1 := segOk_near.1 hs
  have h2 := segOk_near.1 ht
  unfold crossB Crosses
  rw [sideI_det hs h2.1, sideI_det hs h2.2, sideI_det ht h1.1, sideI_det ht h1.2, Bool.and_eq_true, decide_eq_true_eq, decide_eq_true_eq, sign_strict, sign_strict]
theorem key_ltV {p q : Pt} (hp : near4 p) (hq : near4 q) : ltV p q = true ↔ key p < key q := by
  rw [ltV_iff]
  unfold near4 at hp hq
  unfold key
  omega
/-- What the ends in common are, in order. -/
theorem common_is {s t : SegP} (hs : segOk s = true) (ht : segOk t = true) {k : Int × SegP} (h : KindIs s.1 s.2 t.1 t.2 k) :
    (k.1 = 3 → sortedV (comL s t) = [k.2.1, k.2.2]) ∧ (k.1 = 1 → ∃ p, sortedV (comL s t) = [p]) ∧ (k.1 = 0 ∨ k.1 = 2 → sortedV (comL s t) = []) := by
  obtain ⟨hp, hm⟩ := sortedV_strict (comL s t)
  have hm : ∀ x, x ∈ sortedV (comL s t) ↔ Com s.1 s.2 t.1 t.2 x := fun x => (hm x).trans (comL_mem hs ht x)
  refine ⟨fun e => ?_, fun e => ?_, fun e => ?_⟩
  · obtain ⟨⟨h1, h2, h3⟩, h4⟩ := h.over e
    refine strict_unique _ _ hp ?_ fun x => ?_
    · simp only [List.pairwise_cons, List.mem_singleton, List.not_mem_nil, false_implies, implies_true, List.Pairwise.nil, and_true, forall_eq]
      exact (key_ltV h2 h3).2 h1
    · rw [hm, h4]; simp
  · obtain ⟨p, h1⟩ := h.touch e
    refine ⟨p, strict_unique _ _ hp (by simp) fun x => ?_⟩
    rw [hm, h1]; simp
  · refine strict_unique _ _ hp (by simp) fun x => ?_
    rw [hm]
    rcases e with e | e
    · simp [(h.none e).1 x]
    · simp [(h.cross e).1 x]
/-- The reference's kind is the program's. -/
theorem meetI_is {s t : SegP} (hs : segOk s = true) (ht : segOk t = true) {k : Int × SegP} (h : KindIs s.1 s.2 t.1 t.2 k) : meetI s t = k.1 := by
  obtain ⟨h3, h1, h0⟩ := common_is hs ht h
  unfold meetI
  rw [hs, ht, Bool.true_and, if_pos rfl]
  rcases h.range with e | e | e | e
  · rw [h0 (.inl e), e]
    have : crossB s t = false := by
      cases hc : crossB s t
      · rfl
      · exact absurd ((crossB_iff hs ht).1 hc) (h.none e).2
    simp [this]
  · obtain ⟨p, hp⟩ := h1 e
    rw [hp, e]
    simp
  · rw [h0 (.inr e), e]
    have : crossB s t = true := (crossB_iff hs ht).2 (h.cross e).2
    simp [this]
  · rw [h3 e, e]
    simp
theorem meetI_K {s t : SegP} (hs : segOk s = true) (ht : segOk t = true) : meetI s t = (meetK s.1 s.2 t.1 t.2).1 :=
  meetI_is hs ht (meetK_is (segOk_near.1 hs).1 (segOk_near.1 hs).2 (segOk_near.1 ht).1 (segOk_near.1 ht).2)
end Go.Proofs.YtkpnffokjpgalaaGreat
