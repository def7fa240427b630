/- How arguments are opened: vectors, arrays and boxes of ints by value. -/
import Derived.Test.YtkpnffokjpgalaaGreatRows
import Derived.Test.YtkpnffokjpgalaaGreatKVecA
import Derived.OpenShut
import Derived.ChangeOld
import Derived.Lib.SmallJoins
namespace Go.Proofs.YtkpnffokjpgalaaGreat
set_option linter.unusedVariables false
set_option linter.unusedSimpArgs false
open Go.ChangeShapes Go.WideShapes Go.ChangeAt Go.RowKit Go.Joins
set_option maxRecDepth 100000

theorem own : ownKnob Tryz.prog.godebug = none := by kernel_rfl
theorem laidOut : laidOutB Tryz.prog = true := by kernel_rfl

theorem i64_wf {a : Int} (h : (Lit.int .i64 a).wf = true) : i64 a := bounds_i64 h

theorem ints_of : ∀ (cs : List Value), (∀ v ∈ cs, ∃ a, v = .int .i64 a) → ∃ l : List Int, cs = l.map (Value.int .i64)
  | [], _ => ⟨[], rfl⟩
  | x :: cs, each => by
    obtain ⟨a, rfl⟩ := each x (by simp)
    obtain ⟨l, rfl⟩ := ints_of cs (fun v hv => each v (List.mem_cons_of_mem _ hv))
    exact ⟨a :: l, rfl⟩
section
variable {H : Type} {enc : TypeId × Value → H} {w : World} {base : Nat} {spare : Nat → Bool} {held : Bool} {r : Reach} {b0 : Nat} {v : Value} {d : DataW H} {p : List MemPlace}
/-- A cell of an int. -/
theorem cell_int (h : Cell.okWide Tryz.prog w r b0 3 v) : ∃ a, v = .int .i64 a := by
  have h' : Value.okWide Tryz.prog w r b0 3 v := by unfold Value.okWide; rw [Tryz.underlying3]; exact h
  exact okWide_int Tryz.underlying3 h'
/-- An aggregate of ints alone. -/
theorem agg_ints {t : TypeId} {ts : List TypeId} {n : Nat} (ht : (∃ fs, Tryz.prog.underlying t = some (.struct fs)) ∨ ∃ m e, Tryz.prog.underlying t = some (.array m e)) (hc : Tryz.prog.cellTypes Tryz.prog.depth t = some ts) (h3 : ∀ u ∈ ts, u = 3) (hn : Tryz.prog.cellsOf t = n) (hv : Value.okWide Tryz.prog w r b0 t v) :
    ∃ l : List Int, l.length = n ∧ v = .agg (l.map (Value.int .i64)).toArray := by
  have h1 : ∃ cs, v = .agg cs ∧ cs.size = Tryz.prog.cellsOf t ∧ Row.okWide Tryz.prog w r b0 t cs := by
    unfold Value.okWide at hv
    rcases ht with ⟨fs, ht⟩ | ⟨m, e, ht⟩ <;> rw [ht] at hv <;> exact hv
  obtain ⟨⟨cs⟩, rfl, hsz, ts', hts, _, hcell⟩ := h1
  rw [hc] at hts
  obtain rfl := Option.some.inj hts
  have each : ∀ v ∈ cs, ∃ a, v = .int .i64 a := by
    intro v hv'
    obtain ⟨i, hi, rfl⟩ := List.getElem_of_mem hv'
    obtain ⟨u, hu, hok⟩ := hcell i cs[i] (by simp [hi])
    obtain rfl := h3 u (List.mem_of_getElem? hu)
    exact cell_int hok
  clear hcell
  have hex := ints_of cs each
  obtain ⟨l, rfl⟩ := hex
  exact ⟨l, by simpa [hn] using hsz, rfl⟩
theorem cellsVec : Tryz.prog.cellsOf 25 = 2 := by kernel_rfl
theorem open_vec (hv : Value.okWide Tryz.prog w r b0 25 v) (h : DataW.Trod enc Tryz.prog w base spare held 25 v d p) : ∃ x y, v = vv x y ∧ i64 x ∧ i64 y := by
  obtain ⟨c0, c1, y0, y1, m, rfl, rfl, rfl, hy0, hy1⟩ := open_agg2 Tryz.underlying25 (by kernel_rfl) cellsVec hv h
  obtain ⟨a, e0, rfl, wa⟩ := DataW.trod_int Tryz.underlying3 hy0
  obtain ⟨b, e1, rfl, wb⟩ := DataW.trod_int Tryz.underlying3 hy1
  simp at e0 e1
  subst e0 e1
  exact ⟨a, b, rfl, i64_wf wa, i64_wf wb⟩
theorem open_vec4 (hv : Value.okWide Tryz.prog w r b0 125 v) : ∃ a b c e f g h i, v = .agg #[.int .i64 a, .int .i64 b, .int .i64 c, .int .i64 e, .int .i64 f, .int .i64 g, .int .i64 h, .int .i64 i] := by
  obtain ⟨l, hl, rfl⟩ := agg_ints (ts := [3, 3, 3, 3, 3, 3, 3, 3]) (n := 8) (.inr ⟨_, _, Tryz.underlying125⟩) (by kernel_rfl) (by simp) (by kernel_rfl) hv
  match l, hl with
  | [a, b, c, e, f, g, h, i], _ => exact ⟨a, b, c, e, f, g, h, i, rfl⟩
theorem open_box (hv : Value.okWide Tryz.prog w r b0 128 v) : ∃ a b c e, v = .agg #[.int .i64 a, .int .i64 b, .int .i64 c, .int .i64 e] := by
  obtain ⟨l, hl, rfl⟩ := agg_ints (ts := [3, 3, 3, 3]) (n := 4) (.inl ⟨_, Tryz.underlying128⟩) (by kernel_rfl) (by simp) (by kernel_rfl) hv
  match l, hl with
  | [a, b, c, e], _ => exact ⟨a, b, c, e, rfl⟩
end
end Go.Proofs.YtkpnffokjpgalaaGreat
