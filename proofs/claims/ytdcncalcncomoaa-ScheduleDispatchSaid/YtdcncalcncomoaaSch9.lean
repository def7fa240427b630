/- Layer 52: open. -/
import Derived.Test.YtdcncalcncomoaaSch8
namespace Go.Proofs.Ytdcncalcncomoaa
open Go.RowKit Go.Sort
set_option linter.unusedVariables false
attribute [local go_sem ↓] Go.wp_at_zero Go.wp_at_succ

/-- Block g is a table of 1001 bools. -/
structure Bools (w : World) (g : Nat) (F : Nat → Bool) : Prop where
  cell : ∀ o, o < 1001 → w.cell? ⟨g, o, none⟩ = some (.bool (F o))
  free : ∀ o, o < 1001 → w.frozen? ⟨g, o, none⟩ = false
  there : Nonempty (Old w g)
theorem Bools.of {w w' : World} {g : Nat} {F : Nat → Bool} (h : Bools w g F) (hs : SinceOf w w') : Bools w' g F := by
  obtain ⟨z, rfl⟩ := hs
  have := h.there
  exact ⟨fun o ho => by rw [Since.cell]; exact h.cell o ho, fun o ho => by rw [Since.frozen]; exact h.free o ho, inferInstance⟩
theorem Bools.set {w : World} {g : Nat} {F : Nat → Bool} (h : Bools w g F) (n : Nat) (v : Bool) : Bools (w.setCell ⟨g, n, none⟩ (.bool v)) g (fun o => if o = n then v else F o) := by
  have := h.there
  refine ⟨fun o ho => ?_, fun o ho => by rw [World.frozen?_setCell]; exact h.free o ho, inferInstance⟩
  by_cases e : o = n
  · subst e
    rw [if_pos rfl]
    exact World.cell?_setCell_same _ _ _ (h.cell o ho)
  · rw [if_neg e, World.cell?_setCell_other _ _ _ _ (by intro h; injection h with _ h2 _; exact e h2.symm)]
    exact h.cell o ho
theorem Bools.other {w : World} {g : Nat} {F : Nat → Bool} (h : Bools w g F) (b n : Nat) (u : Value) (hne : g ≠ b) : Bools (w.setCell ⟨b, n, none⟩ u) g F := by
  have := h.there
  refine ⟨fun o ho => ?_, fun o ho => by rw [World.frozen?_setCell]; exact h.free o ho, inferInstance⟩
  rw [World.cell?_setCell_other _ _ _ _ (by intro h; injection h with h1; exact hne h1.symm)]
  exact h.cell o ho
theorem zeros : Try.zeroCells139 = Array.replicate 1001 (.bool false) := by kernel_rfl
def ordAt (L : List JobR) (x : SlotR) : Int := (jobAt L x.job).ord
def begunB (L : List JobR) (t : Int) (l : List SlotR) (o : Nat) : Bool := l.any fun x => ordAt L x == o && decide (x.start ≤ t)
def unfinB (L : List JobR) (t : Int) (l : List SlotR) (o : Nat) : Bool := l.any fun x => ordAt L x == o && decide (t < x.stop)
def openTo (L : List JobR) (t : Int) (l : List SlotR) (n : Nat) : Int := ((List.range n).countP fun o => begunB L t l o && unfinB L t l o : Nat)
def openN (L : List JobR) (t : Int) (l : List SlotR) : Int := openTo L t l 1001
theorem openTo_succ (L : List JobR) (t : Int) (l : List SlotR) (n : Nat) : openTo L t l (n + 1) = openTo L t l n + (if (begunB L t l n && unfinB L t l n) = true then 1 else 0) := by
  unfold openTo; rw [List.range_succ, List.countP_append]
  simp only [List.countP_singleton]
  split <;> simp
theorem openTo_le (L : List JobR) (t : Int) (l : List SlotR) (n : Nat) : 0 ≤ openTo L t l n ∧ openTo L t l n ≤ n := by
  unfold openTo
  have := List.countP_le_length (p := fun o => begunB L t l o && unfinB L t l o) (l := List.range n)
  rw [List.length_range] at this
  omega
theorem begun_cons (L : List JobR) (t : Int) {l : List SlotR} {k : Nat} (h : k < l.length) (o : Nat) : begunB L t (l.drop k) o = ((ordAt L l[k] == o && decide (l[k].start ≤ t)) || begunB L t (l.drop (k + 1)) o) := by
  unfold begunB; rw [List.drop_eq_getElem_cons h, List.any_cons]
theorem unfin_cons (L : List JobR) (t : Int) {l : List SlotR} {k : Nat} (h : k < l.length) (o : Nat) : unfinB L t (l.drop k) o = ((ordAt L l[k] == o && decide (t < l[k].stop)) || unfinB L t (l.drop (k + 1)) o) := by
  unfold unfinB; rw [List.drop_eq_getElem_cons h, List.any_cons]
theorem turned {F : Nat → Bool} {n : Nat} {q : Bool} {r R : Nat → Bool} (h : ∀ o, R o = (F o || (((n : Int) == (o : Int)) && q || r o))) : ∀ o, R o = ((if o = n then (F n || q) else F o) || r o) := by
  intro o
  rw [h o]
  by_cases e : o = n
  · subst e; rw [if_pos rfl, show ((o : Int) == (o : Int)) = true from by simp]; cases F o <;> cases q <;> simp
  · rw [if_neg e, show ((n : Int) == (o : Int)) = false from by simp; omega]; simp

set_option maxRecDepth 100000 in
set_option maxHeartbeats 4000000 in
theorem openS_any (A : Option Addr) (c : Nat) (L : List JobR) (B : Option Addr) (d : Nat) (l : List SlotR) (t : Int) (w : World) (h : IsJobs w A c L) (hl : IsSlots w B d l) (hll : l.length < 4611686018427387904)
    (hn : ∀ y ∈ l, 0 ≤ y.job ∧ y.job < L.length) (hord : ∀ j ∈ L, 0 ≤ j.ord ∧ j.ord ≤ 1000) :
    Gives Try.prog 65 #[.slice A L.length c, .slice B l.length d, .int .i64 t] w (.int .i64 (openN L t l)) := by
  apply Gives.ret
  have hjl := h.len
  have H := Lib.hid (And.intro h (And.intro hl (And.intro hn hord)))
  clear h hl hn hord
  go_enter Try.func65, Try.ntmps65
  go_wp2_with fail
  have z1 : Bools ((w.alloc (.cells Try.zeroCells139 139)).alloc (.cells Try.zeroCells139 139)) w.heap.size (fun _ => false) := by
    rw [zeros]
    exact ⟨fun o ho => by simp [go_sem, ho], fun o ho => by simp [go_sem], inferInstance⟩
  have z2 : Bools ((w.alloc (.cells Try.zeroCells139 139)).alloc (.cells Try.zeroCells139 139)) (w.heap.size + 1) (fun _ => false) := by
    rw [zeros]
    exact ⟨fun o ho => by simp [go_sem, ho], fun o ho => by simp [go_sem], inferInstance⟩
  generalize hW0 : (w.alloc (.cells Try.zeroCells139 139)).alloc (.cells Try.zeroCells139 139) = W0 at *
  have hW : LaterOf w W0 := by rw [← hW0]; exact (LaterOf.alloc (LaterOf.alloc (LaterOf.refl w) _) _)
  clear hW0
  have HZ := Lib.hid (And.intro hW (And.intro z1 z2))
  clear hW z1 z2
  go_loopg [16] l.length (fun gas s16 wr => ∃ (k : Nat) (F G : Nat → Bool), k ≤ l.length ∧ l.length - k ≤ gas ∧ s16 = .int .i64 k ∧ LaterOf w wr ∧ Bools wr w.heap.size F ∧ Bools wr (w.heap.size + 1) G ∧ (∀ o, begunB L t l o = (F o || begunB L t (l.drop k) o)) ∧ (∀ o, unfinB L t l o = (G o || unfinB L t (l.drop k) o)))
  case atStart => exact ⟨0, fun _ => false, fun _ => false, by omega, by omega, rfl, HZ.out.1, HZ.out.2.1, HZ.out.2.2, fun o => by rw [List.drop_zero, Bool.false_or], fun o => by rw [List.drop_zero, Bool.false_or]⟩
  case round =>
    obtain ⟨k, F, G, hk, hgas, rfl, hz, hB, hU, hb, hu⟩ := hrel
    by_cases hlt : k < l.length
    · have hrl := (H.out.2.1.of hz.since)
      have hrj0 := (H.out.1.of hz.since)
      obtain ⟨hx0, hx1⟩ := H.out.2.2.1 _ (List.getElem_mem hlt)
      obtain ⟨jn, hjn⟩ : ∃ m : Nat, l[k].job = m := ⟨l[k].job.toNat, by omega⟩
      have hj' : jn < L.length := by omega
      obtain ⟨ho0, ho1⟩ := H.out.2.2.2 _ (List.getElem_mem hj')
      obtain ⟨n, hn⟩ : ∃ m : Nat, L[jn].ord = m := ⟨L[jn].ord.toNat, by omega⟩
      have hn1 : n < 1001 := by omega
      have eo : ordAt L l[k] = n := by unfold ordAt; rw [hjn, jobAt_at hj', hn]
      have hb2 := turned (F := F) (R := begunB L t l) (n := n) (q := decide (l[k].start ≤ t)) (r := begunB L t (l.drop (k + 1))) (fun o => by rw [hb o, begun_cons L t hlt, eo])
      have hu2 := turned (F := G) (R := unfinB L t l) (n := n) (q := decide (t < l[k].stop)) (r := unfinB L t (l.drop (k + 1))) (fun o => by rw [hu o, unfin_cons L t hlt, eo])
      obtain ⟨gs, os, rfl, hrs⟩ := hrl.at_ (by omega)
      obtain ⟨gj, oj, rfl, hrj⟩ := hrj0.row.at_ (by omega)
      have hOs := hrs.there
      have hOj := hrj.there
      have s0 := hrs.s0 k hlt
      have s1 := hrs.s1 k hlt
      have s2 := hrs.s2 k hlt
      have s3 := hrs.s3 k hlt
      have j5 := hrj.j5 jn hj'
      rw [hjn] at s0
      rw [hn] at j5
      have cB := hB.cell n hn1
      have fB := hB.free n hn1
      have cU := hU.cell n hn1
      have fU := hU.free n hn1
      have hOB := hB.there
      have hOU := hU.there
      have hlt2 : w.heap.size + 1 < wr.heap.size := hOU.elim fun h => h.lt
      have hp1 : Nonempty (Apart wr.heap.size w.heap.size) := ⟨⟨by omega⟩⟩
      have hp2 : Nonempty (Apart wr.heap.size (w.heap.size + 1)) := ⟨⟨by omega⟩⟩
      generalize l[k].start = xs at *
      generalize l[k].stop = xe at *
      generalize l[k].mach = xm at *
      have HR := Lib.hid (And.intro hz (And.intro hB (And.intro hU (And.intro hb2 hu2))))
      clear hz hB hU hb hu hb2 hu2 hrs hrj hrj0 hrl hjn hn eo hx0 hx1 ho0 ho1
      cases hF : F n <;> cases hG : G n
      all_goals
        rw [hF] at cB
        rw [hG] at cU
        have HFG := Lib.hid (And.intro hF hG)
        clear hF hG
        go_wp2_with fail
        go_roundg (l.length - (k + 1))
        case measure => omega
        case rel =>
          obtain ⟨hz, hB, hU, hb2, hu2⟩ := HR.out
          refine ⟨k + 1, fun o => if o = n then (F n || decide (xs ≤ t)) else F o, fun o => if o = n then (G n || decide (t < xe)) else G o, hlt, Nat.le_refl _, by go_num, ((hz.alloc _).setCell (Nat.le_refl _) _).setCell (Nat.le_succ _) _, ?_, ?_, hb2, hu2⟩
          · rw [HFG.out.1]
            first | rw [Bool.false_or] | rw [Bool.true_or]
            exact ((hB.of ((SinceOf.refl _).alloc _)).set n _).other _ n _ (by omega)
          · rw [HFG.out.2]
            first | rw [Bool.false_or] | rw [Bool.true_or]
            exact ((hU.of ((SinceOf.refl _).alloc _)).other _ n _ (by omega)).set n _
    · have hkl : k = l.length := by omega
      have eb : ∀ o, begunB L t l o = F o := fun o => by rw [hb o, hkl, List.drop_length]; simp [begunB]
      have eu : ∀ o, unfinB L t l o = G o := fun o => by rw [hu o, hkl, List.drop_length]; simp [unfinB]
      have HR := Lib.hid (And.intro hz (And.intro hB (And.intro hU (And.intro eb eu))))
      have hOB := hB.there
      have hOU := hU.there
      clear hz hB hU hb hu eb eu hkl
      go_wp2_with fail
      go_loopg [12, 49] 1001 (fun gas s12 s49 wx => ∃ o : Nat, o ≤ 1001 ∧ 1001 - o ≤ gas ∧ s12 = .int .i64 (openTo L t l o) ∧ s49 = .int .i64 o ∧ wr = wx)
      case atStart => exact ⟨0, by omega, by omega, rfl, rfl, rfl⟩
      case round =>
        obtain ⟨o, ho, hgas2, rfl, rfl, rfl⟩ := hrel
        by_cases hlto : o < 1001
        · have cB := HR.out.2.1.cell o hlto
          have cU := HR.out.2.2.1.cell o hlto
          have hsu := openTo_succ L t l o
          rw [HR.out.2.2.2.1 o, HR.out.2.2.2.2 o] at hsu
          have hle := openTo_le L t l o
          generalize openTo L t l o = cn at *
          have hlt3 : o < 1001 := hlto
          cases hF : F o
          · rw [hF] at cB hsu
            simp at hsu
            have HS := Lib.hid hsu
            clear hsu hF
            go_wp2_with fail
            go_roundg (1001 - (o + 1))
            case measure => omega
            case rel => exact ⟨o + 1, hlto, Nat.le_refl _, by rw [HS.out], by go_num, rfl⟩
          · cases hG : G o
            · rw [hF] at cB
              rw [hF, hG] at hsu
              rw [hG] at cU
              simp at hsu
              have HS := Lib.hid hsu
              clear hsu hF hG
              go_wp2_with fail
              go_roundg (1001 - (o + 1))
              case measure => omega
              case rel => exact ⟨o + 1, hlto, Nat.le_refl _, by rw [HS.out], by go_num, rfl⟩
            · rw [hF] at cB
              rw [hF, hG] at hsu
              rw [hG] at cU
              simp at hsu
              have HS := Lib.hid hsu
              clear hsu hF hG
              go_wp2_with fail
              go_roundg (1001 - (o + 1))
              case measure => omega
              case rel => exact ⟨o + 1, hlto, Nat.le_refl _, by rw [HS.out], by go_num, rfl⟩
        · have hol : o = 1001 := by omega
          subst hol
          go_wp2_with fail
          go_returns
          exact ⟨rfl, HR.out.1⟩
end Go.Proofs.Ytdcncalcncomoaa
