/- The calendar's add and Spans. -/
import Derived.Test.YtpaojgfmffkodaaGreatLCal10
import Derived.WalkLawsBesides
namespace Go.Proofs.YtpaojgfmffkodaaGreat
set_option linter.unusedVariables false
set_option linter.unusedSimpArgs false
open Go.RowKit Go.Sort
attribute [local go_sem ↓] Go.wp_at_zero Go.wp_at_succ
section
variable {P : Int} {A B : Option Addr} {n c m d : Nat} {S D : List (Int × Int)} {w : World}
end
end Go.Proofs.YtpaojgfmffkodaaGreat
/- The reference's Spans. -/
namespace Go.Proofs.YtpaojgfmffkodaaGreat
set_option linter.unusedVariables false
set_option linter.unusedSimpArgs false
open Go.RowKit Go.Sort
attribute [local go_sem ↓] Go.wp_at_zero Go.wp_at_succ
section
variable {P : Int} {A B : Option Addr} {n c m d : Nat} {S D : List (Int × Int)} {w : World}
end
end Go.Proofs.YtpaojgfmffkodaaGreat
/- Layer 52: costs and small functions. -/
namespace Go.Proofs.YtpaojgfmffkodaaGreat
set_option linter.unusedVariables false
set_option linter.unusedSimpArgs false
open Go.RowKit Go.Sort
attribute [local go_sem ↓] Go.wp_at_zero Go.wp_at_succ
def cmpi (a b : Int) : Int := if a < b then -1 else if b < a then 1 else 0
theorem cmpi_cases (a b : Int) : (a < b ∧ cmpi a b = -1) ∨ (¬ a < b ∧ b < a ∧ cmpi a b = 1) ∨ (¬ a < b ∧ ¬ b < a ∧ cmpi a b = 0) := by
  unfold cmpi; by_cases h1 : a < b
  · exact .inl ⟨h1, if_pos h1⟩
  · by_cases h2 : b < a
    · exact .inr (.inl ⟨h1, h2, by rw [if_neg h1, if_pos h2]⟩)
    · exact .inr (.inr ⟨h1, h2, by rw [if_neg h1, if_neg h2]⟩)
def or4 (a b c d : Int) : Int := if a = 0 then (if b = 0 then (if c = 0 then d else c) else b) else a
abbrev costV (a b c d : Int) : Value := .agg #[.int .i64 a, .int .i64 b, .int .i64 c, .int .i64 d]
def lessC (a0 a1 a2 a3 b0 b1 b2 b3 : Int) : Bool := decide (or4 (cmpi a0 b0) (cmpi a1 b1) (cmpi a2 b2) (cmpi a3 b3) < 0)
theorem cmpInt_any (a b : Int) (w : World) : Calls Tryz.prog 40 #[.int .i64 a, .int .i64 b] w fun e w' => e = .returned (.int .i64 (cmpi a b)) ∧ w = w' := by
  rcases cmpi_cases a b with ⟨h1, e⟩ | ⟨h1, h2, e⟩ | ⟨h1, h2, e⟩ <;> rw [e] <;> clear e <;> go_enter Tryz.func40, Tryz.ntmps40 <;> go_wp2 <;> go_returns <;> exact ⟨rfl, rfl⟩
theorem cmpOr4_any (a b c d : Int) (g n : Nat) (w : World) (h0 : w.cell? ⟨g, 0, none⟩ = some (.int .i64 a)) (h1 : w.cell? ⟨g, 1, none⟩ = some (.int .i64 b)) (h2 : w.cell? ⟨g, 2, none⟩ = some (.int .i64 c)) (h3 : w.cell? ⟨g, 3, none⟩ = some (.int .i64 d)) :
    Calls Tryz.prog 39 #[.slice (some ⟨g, 0, none⟩) 4 n] w fun e w' => e = .returned (.int .i64 (or4 a b c d)) ∧ w = w' := by
  by_cases ha : a = 0
  · subst ha
    by_cases hb : b = 0
    · subst hb
      by_cases hc : c = 0
      · subst hc
        by_cases hd : d = 0
        · subst hd
          go_enter Tryz.func39, Tryz.ntmps39
          go_wp2
          go_rounds 5
          go_returns
          exact ⟨by simp [or4], rfl⟩
        · go_enter Tryz.func39, Tryz.ntmps39
          go_wp2
          go_rounds 5
          go_returns
          exact ⟨by simp [or4], rfl⟩
      · go_enter Tryz.func39, Tryz.ntmps39
        go_wp2
        go_rounds 5
        go_returns
        exact ⟨by simp [or4, hc], rfl⟩
    · go_enter Tryz.func39, Tryz.ntmps39
      go_wp2
      go_rounds 5
      go_returns
      exact ⟨by simp [or4, hb], rfl⟩
  · go_enter Tryz.func39, Tryz.ntmps39
    go_wp2
    go_rounds 5
    go_returns
    exact ⟨by simp [or4, ha], rfl⟩
set_option maxRecDepth 100000 in
set_option maxHeartbeats 2000000 in
theorem schLess_any (a0 a1 a2 a3 b0 b1 b2 b3 : Int) (w : World) : Gives Tryz.prog 95 #[costV a0 a1 a2 a3, costV b0 b1 b2 b3] w (.bool (lessC a0 a1 a2 a3 b0 b1 b2 b3)) := by
  apply Gives.ret
  go_enter Tryz.func95, Tryz.ntmps95
  go_wp2_with fail
  go_region_held3 (fun w' => w'.cell? ⟨w.heap.size, 0, none⟩ = some (.int .i64 a0) ∧ w'.cell? ⟨w.heap.size, 1, none⟩ = some (.int .i64 a1) ∧ w'.cell? ⟨w.heap.size, 2, none⟩ = some (.int .i64 a2) ∧ w'.cell? ⟨w.heap.size, 3, none⟩ = some (.int .i64 a3) ∧
      w'.cell? ⟨w.heap.size + 1, 0, none⟩ = some (.int .i64 b0) ∧ w'.cell? ⟨w.heap.size + 1, 1, none⟩ = some (.int .i64 b1) ∧ w'.cell? ⟨w.heap.size + 1, 2, none⟩ = some (.int .i64 b2) ∧ w'.cell? ⟨w.heap.size + 1, 3, none⟩ = some (.int .i64 b3)) (go_keep)
    (first | (go_at_call 40; refine (cmpInt_any _ _ _).mono ?_; rintro e w' ⟨rfl, rfl⟩) | (go_at_call 39; refine (cmpOr4_any (cmpi a0 b0) (cmpi a1 b1) (cmpi a2 b2) (cmpi a3 b3) _ _ _ (by simp [go_sem]) (by simp [go_sem]) (by simp [go_sem]) (by simp [go_sem])).mono ?_; rintro e w' ⟨rfl, rfl⟩))
  all_goals
    go_wp2_with fail
    go_returns
    exact ⟨rfl, Lx⟩
theorem lessC_cases (a0 a1 a2 a3 b0 b1 b2 b3 : Int) : (a0 ≠ b0 ∧ lessC a0 a1 a2 a3 b0 b1 b2 b3 = decide (a0 < b0)) ∨ (a0 = b0 ∧ a1 ≠ b1 ∧ lessC a0 a1 a2 a3 b0 b1 b2 b3 = decide (a1 < b1)) ∨
    (a0 = b0 ∧ a1 = b1 ∧ a2 ≠ b2 ∧ lessC a0 a1 a2 a3 b0 b1 b2 b3 = decide (a2 < b2)) ∨ (a0 = b0 ∧ a1 = b1 ∧ a2 = b2 ∧ lessC a0 a1 a2 a3 b0 b1 b2 b3 = decide (a3 < b3)) := by
  have k : ∀ a b : Int, (cmpi a b = 0 ↔ a = b) ∧ (cmpi a b < 0 ↔ a < b) := fun a b => by rcases cmpi_cases a b with ⟨h1, e⟩ | ⟨h1, h2, e⟩ | ⟨h1, h2, e⟩ <;> rw [e] <;> omega
  unfold lessC or4
  by_cases h0 : a0 = b0
  · by_cases h1 : a1 = b1
    · by_cases h2 : a2 = b2
      · right; right; right
        refine ⟨h0, h1, h2, ?_⟩
        rw [if_pos ((k _ _).1.2 h0), if_pos ((k _ _).1.2 h1), if_pos ((k _ _).1.2 h2)]
        rw [decide_eq_decide]; exact (k _ _).2
      · right; right; left
        refine ⟨h0, h1, h2, ?_⟩
        rw [if_pos ((k _ _).1.2 h0), if_pos ((k _ _).1.2 h1), if_neg (fun h => h2 ((k _ _).1.1 h))]
        rw [decide_eq_decide]; exact (k _ _).2
    · right; left
      refine ⟨h0, h1, ?_⟩
      rw [if_pos ((k _ _).1.2 h0), if_neg (fun h => h1 ((k _ _).1.1 h))]
      rw [decide_eq_decide]; exact (k _ _).2
  · left
    refine ⟨h0, ?_⟩
    rw [if_neg (fun h => h0 ((k _ _).1.1 h))]
    rw [decide_eq_decide]; exact (k _ _).2
set_option maxHeartbeats 1000000 in
theorem refLess_any (a0 a1 a2 a3 b0 b1 b2 b3 : Int) (w : World) : Gives Tryz.prog 97 #[costV a0 a1 a2 a3, costV b0 b1 b2 b3] w (.bool (lessC a0 a1 a2 a3 b0 b1 b2 b3)) := by
  apply Gives.ret
  rcases lessC_cases a0 a1 a2 a3 b0 b1 b2 b3 with ⟨h0, e⟩ | ⟨rfl, h1, e⟩ | ⟨rfl, rfl, h2, e⟩ | ⟨rfl, rfl, rfl, e⟩ <;> rw [e] <;> clear e
  · have f : (a0 != b0) = true := by simpa using h0
    go_enter Tryz.func97, Tryz.ntmps97
    go_wp2_with fail
    go_returns
    exact ⟨rfl, Lx⟩
  · have f : (a1 != b1) = true := by simpa using h1
    go_enter Tryz.func97, Tryz.ntmps97
    go_wp2_with fail
    go_returns
    exact ⟨rfl, Lx⟩
  · have f : (a2 != b2) = true := by simpa using h2
    go_enter Tryz.func97, Tryz.ntmps97
    go_wp2_with fail
    go_returns
    exact ⟨rfl, Lx⟩
  · go_enter Tryz.func97, Tryz.ntmps97
    go_wp2_with fail
    go_returns
    exact ⟨rfl, Lx⟩
theorem in_any (n lo hi : Int) (w : World) : Calls Tryz.prog 124 #[.int .i64 n, .int .i64 lo, .int .i64 hi] w fun e w' => e = .returned (.bool (decide (lo ≤ n) && decide (n ≤ hi))) ∧ w = w' := by
  by_cases h1 : lo ≤ n
  · go_enter Tryz.func124, Tryz.ntmps124
    go_wp2_with fail
    go_returns
    exact ⟨by simp [h1], rfl⟩
  · have h1' : decide (lo ≤ n) = false := decide_eq_false h1
    go_enter Tryz.func124, Tryz.ntmps124
    go_wp2_with fail
    go_returns
    exact ⟨by simp [h1], rfl⟩
end Go.Proofs.YtpaojgfmffkodaaGreat
/- Layer 52: shops, jobs, slots as data; shop. -/
namespace Go.Proofs.YtpaojgfmffkodaaGreat
set_option linter.unusedVariables false
set_option linter.unusedSimpArgs false
open Go.RowKit Go.Sort
attribute [local go_sem ↓] Go.wp_at_zero Go.wp_at_succ
def encN (x : Int) : List Value := [.int .i64 x]
abbrev IsInts (w : World) (A : Option Addr) (c : Nat) (l : List Int) : Prop := IsRow encN 1 w A c l
theorem RowAt.n0 {w : World} {g off : Nat} {l : List Int} (h : RowAt encN 1 w g off l) (i : Nat) (hi : i < l.length) : w.cell? ⟨g, off + i, none⟩ = some (.int .i64 l[i]) := by
  have := h.cells i hi 0 _ rfl
  simpa using this
structure CalR where
  P : Int
  A : Option Addr
  c : Nat
  S : List (Int × Int)
  B : Option Addr
  d : Nat
  D : List (Int × Int)
def encC (x : CalR) : List Value := [.int .i64 x.P, .slice x.A x.S.length x.c, .slice x.B x.D.length x.d]
structure IsCals (w : World) (A : Option Addr) (c : Nat) (L : List CalR) : Prop where
  row : IsRow encC 3 w A c L
  all : ∀ x ∈ L, IsCal w x.P x.A x.S.length x.c x.B x.D.length x.d x.S x.D
  len : L.length < 4611686018427387904
structure RowR where
  A : Option Addr
  c : Nat
  xs : List Int
def encR (x : RowR) : List Value := [.slice x.A x.xs.length x.c]
structure IsRows (w : World) (A : Option Addr) (c : Nat) (L : List RowR) : Prop where
  row : IsRow encR 1 w A c L
  all : ∀ x ∈ L, IsInts w x.A x.c x.xs ∧ x.xs.length < 4611686018427387904
  len : L.length < 4611686018427387904
structure ShopR where
  A : Option Addr
  c : Nat
  cals : List CalR
  B : Option Addr
  d : Nat
  rows : List RowR
  most : Int
abbrev shopV (s : ShopR) : Value := .agg #[.slice s.A s.cals.length s.c, .slice s.B s.rows.length s.d, .int .i64 s.most]
structure IsShop (w : World) (s : ShopR) : Prop where
  cals : IsCals w s.A s.c s.cals
  rows : IsRows w s.B s.d s.rows
theorem IsCals.of {w w' : World} {A : Option Addr} {c : Nat} {L : List CalR} (h : IsCals w A c L) (hs : SinceOf w w') : IsCals w' A c L := ⟨h.row.of hs, fun x hx => (h.all x hx).of hs, h.len⟩
theorem IsRows.of {w w' : World} {A : Option Addr} {c : Nat} {L : List RowR} (h : IsRows w A c L) (hs : SinceOf w w') : IsRows w' A c L := ⟨h.row.of hs, fun x hx => ⟨(h.all x hx).1.of hs, (h.all x hx).2⟩, h.len⟩
theorem IsShop.of {w w' : World} {s : ShopR} (h : IsShop w s) (hs : SinceOf w w') : IsShop w' s := ⟨h.cals.of hs, h.rows.of hs⟩
theorem RowAt.k0 {w : World} {g off : Nat} {l : List CalR} (h : RowAt encC 3 w g off l) (i : Nat) (hi : i < l.length) : w.cell? ⟨g, off + i * 3, none⟩ = some (.int .i64 l[i].P) := h.cells i hi 0 _ rfl
theorem RowAt.k1 {w : World} {g off : Nat} {l : List CalR} (h : RowAt encC 3 w g off l) (i : Nat) (hi : i < l.length) : w.cell? ⟨g, off + i * 3 + 1, none⟩ = some (.slice l[i].A l[i].S.length l[i].c) := h.cells i hi 1 _ rfl
theorem RowAt.k2 {w : World} {g off : Nat} {l : List CalR} (h : RowAt encC 3 w g off l) (i : Nat) (hi : i < l.length) : w.cell? ⟨g, off + i * 3 + 2, none⟩ = some (.slice l[i].B l[i].D.length l[i].d) := h.cells i hi 2 _ rfl
theorem RowAt.r0 {w : World} {g off : Nat} {l : List RowR} (h : RowAt encR 1 w g off l) (i : Nat) (hi : i < l.length) : w.cell? ⟨g, off + i, none⟩ = some (.slice l[i].A l[i].xs.length l[i].c) := by
  have := h.cells i hi 0 _ rfl
  simpa using this
def wrongC (x : CalR) : Bool := !validB x.P x.S x.D
theorem shopWrong_any (x : CalR) (w : World) (h : IsCal w x.P x.A x.S.length x.c x.B x.D.length x.d x.S x.D) : Gives Tryz.prog 137 #[CalV x.P x.A x.S.length x.c x.B x.D.length x.d] w (.bool (wrongC x)) := by
  apply Gives.ret
  have V := h.valid (v := validB x.P x.S x.D) rfl
  unfold wrongC
  clear h
  go_enter Tryz.func137, Tryz.ntmps137
  go_wp2_with fail
  refine (V _ Sx).calls.mono ?_
  rintro e _ ⟨rfl, x1, rfl⟩
  go_wp2_with fail
  go_returns
  exact ⟨rfl, Lx⟩
theorem any_drop {α : Type} (f : α → Bool) {l : List α} {k : Nat} (h : k < l.length) : (l.drop k).any f = (f l[k] || (l.drop (k + 1)).any f) := by
  rw [List.drop_eq_getElem_cons h, List.any_cons]
set_option maxRecDepth 100000 in
set_option maxHeartbeats 2000000 in
theorem indexCal_any (A : Option Addr) (c : Nat) (L : List CalR) (w : World) (h : IsCals w A c L) : Calls Tryz.prog 167 #[.slice A L.length c, .func (Fn.func 137) #[] #[]] w fun e w' => ∃ r : Int, e = .returned (.int .i64 r) ∧ decide (0 ≤ r) = L.any wrongC ∧ LaterOf w w' := by
  have H := Lib.hid h
  have hlen := h.len
  clear h
  go_enter Tryz.func167, Tryz.ntmps167
  go_wp2_with fail
  go_loopg [8] L.length (fun gas s8 wr => ∃ k : Nat, k ≤ L.length ∧ L.length - k ≤ gas ∧ s8 = .int .i64 k ∧ LaterOf w wr ∧ L.any wrongC = (L.drop k).any wrongC)
  case atStart => exact ⟨0, by omega, by omega, rfl, Lx, by rw [List.drop_zero]⟩
  case round =>
    obtain ⟨k, hk, hgas, rfl, ⟨z, rfl⟩, hany⟩ := hrel
    by_cases hlt : k < L.length
    · have hc := (H.out.of (LaterOf.since ⟨z, rfl⟩))
      have C := shopWrong_any L[k] z.wd (hc.all _ (List.getElem_mem hlt))
      obtain ⟨g, off, rfl, hr⟩ := hc.row.at_ (by omega)
      have hO := hr.there
      have k0 := hr.k0 k hlt
      have k1 := hr.k1 k hlt
      have k2 := hr.k2 k hlt
      rw [any_drop wrongC hlt] at hany
      generalize L[k] = x at *
      clear hc hr
      cases hx : wrongC x
      · rw [hx] at C hany
        rw [Bool.false_or] at hany
        have HA := Lib.hid hany
        clear hany hx
        go_wp2_with fail
        refine C.calls.mono ?_
        rintro e _ ⟨rfl, x1, rfl⟩
        go_wp2_with fail
        go_roundg (L.length - (k + 1))
        case measure => omega
        case rel => exact ⟨k + 1, hlt, Nat.le_refl _, by go_num, Lx, HA.out⟩
      · rw [hx] at C hany
        rw [Bool.true_or] at hany
        have HA := Lib.hid hany
        clear hany hx
        go_wp2_with fail
        refine C.calls.mono ?_
        rintro e _ ⟨rfl, x1, rfl⟩
        go_wp2_with fail
        go_returns
        exact ⟨k, rfl, by rw [HA.out]; simp, Lx⟩
    · have hkl : k = L.length := by omega
      rw [hkl, List.drop_length] at hany
      have HA := Lib.hid hany
      clear hany
      go_wp2_with fail
      go_returns
      exact ⟨-1, rfl, by rw [HA.out]; rfl, Lx⟩
theorem containsCal_any (A : Option Addr) (c : Nat) (L : List CalR) (w : World) (h : IsCals w A c L) : Gives Tryz.prog 138 #[.slice A L.length c, .func (Fn.func 137) #[] #[]] w (.bool (L.any wrongC)) := by
  apply Gives.ret
  have H := Lib.hid h
  clear h
  go_enter Tryz.func138, Tryz.ntmps138
  go_wp2_with fail
  refine (indexCal_any A c L _ H.out).mono ?_
  rintro e _ ⟨r, rfl, hr, ⟨z, rfl⟩⟩
  have HA := Lib.hid hr
  clear hr
  go_wp2_with fail
  go_returns
  exact ⟨by show Ending.returned (.bool (decide (0 ≤ r))) = _; rw [HA.out], Lx⟩
end Go.Proofs.YtpaojgfmffkodaaGreat
/- Layer 52: shop. -/
namespace Go.Proofs.YtpaojgfmffkodaaGreat
set_option linter.unusedVariables false
set_option linter.unusedSimpArgs false
open Go.RowKit Go.Sort
attribute [local go_sem ↓] Go.wp_at_zero Go.wp_at_succ
def get2 (R : List RowR) (a b : Nat) : Int := (R.getD a ⟨none, 0, []⟩).xs.getD b 0
def triB (R : List RowR) (a c b : Nat) : Bool := decide (get2 R a c ≤ wadd (get2 R a b) (get2 R b c))
def nearB (R : List RowR) (a c : Nat) : Bool := (decide (0 ≤ get2 R a c) && decide (get2 R a c ≤ 1000)) && !(a == c && get2 R a c != 0)
def cellB (R : List RowR) (a c : Nat) : Bool := nearB R a c && (List.range R.length).all (triB R a c)
def lineB (R : List RowR) (a : Nat) : Bool := (List.range R.length).all (cellB R a)
def setupB (R : List RowR) : Bool := (List.range R.length).all (lineB R)
def sizesB (R : List RowR) : Bool := R.all fun r => r.xs.length == R.length
def headB (s : ShopR) : Bool := (decide (1 ≤ (s.cals.length : Int)) && decide ((s.cals.length : Int) ≤ 6)) && (!s.cals.any wrongC && ((decide (1 ≤ (s.rows.length : Int)) && decide ((s.rows.length : Int) ≤ 8)) && (decide (1 ≤ s.most) && decide (s.most ≤ 40))))
def shopB (s : ShopR) : Bool := headB s && (sizesB s.rows && setupB s.rows)
theorem all_range (f : Nat → Bool) {n k : Nat} (h : k < n) : ((List.range n).drop k).all f = (f k && ((List.range n).drop (k + 1)).all f) := by
  rw [List.drop_eq_getElem_cons (by simpa using h), List.all_cons, List.getElem_range]
theorem all_range_end (f : Nat → Bool) (n : Nat) : ((List.range n).drop n).all f = true := by
  rw [List.drop_eq_nil_of_le (by simp)]; rfl
theorem get2_at {R : List RowR} {a b : Nat} (h : a < R.length) (k : b < R[a].xs.length) : get2 R a b = R[a].xs[b] := by
  unfold get2
  have e : R.getD a ⟨none, 0, []⟩ = R[a] := by rw [List.getD_eq_getElem?_getD, List.getElem?_eq_getElem h, Option.getD_some]
  rw [e, List.getD_eq_getElem?_getD, List.getElem?_eq_getElem k, Option.getD_some]
set_option maxRecDepth 100000 in
set_option maxHeartbeats 8000000 in
theorem shop_any (s : ShopR) (w : World) (h : IsShop w s) : Gives Tryz.prog 99 #[shopV s] w (.bool (shopB s)) := by
  apply Gives.ret
  obtain ⟨A, c, cals, B, d, R, most⟩ := s
  have I1 := fun W => in_any (cals.length : Int) 1 6 W
  have I2 := fun W hW => containsCal_any A c cals W (h.cals.of hW)
  have I3 := fun W => in_any (R.length : Int) 1 8 W
  have I4 := fun W => in_any most 1 40 W
  have hS : shopB ⟨A, c, cals, B, d, R, most⟩ = (headB ⟨A, c, cals, B, d, R, most⟩ && (sizesB R && setupB R)) := rfl
  have hH : headB ⟨A, c, cals, B, d, R, most⟩ = ((decide (1 ≤ (cals.length : Int)) && decide ((cals.length : Int) ≤ 6)) && (!cals.any wrongC && ((decide (1 ≤ (R.length : Int)) && decide ((R.length : Int) ≤ 8)) && (decide (1 ≤ most) && decide (most ≤ 40))))) := rfl
  rw [hS, hH]
  clear hS hH
  have hR8 : (decide (1 ≤ (R.length : Int)) && decide ((R.length : Int) ≤ 8)) = true → R.length ≤ 8 := by simp; omega
  generalize (decide (1 ≤ (cals.length : Int)) && decide ((cals.length : Int) ≤ 6)) = q1 at *
  generalize cals.any wrongC = q2 at *
  generalize (decide (1 ≤ (R.length : Int)) && decide ((R.length : Int) ≤ 8)) = q3 at *
  generalize (decide (1 ≤ most) && decide (most ≤ 40)) = q4 at *
  have hr := h.rows
  have hrl := hr.len
  have hcl := h.cals.len
  have H := Lib.hid hr
  clear h hr
  have hcase : (q1 = false ∨ (q1 = true ∧ q2 = true) ∨ (q1 = true ∧ q2 = false ∧ q3 = false) ∨ (q1 = true ∧ q2 = false ∧ q3 = true ∧ q4 = false)) ∨ (q1 = true ∧ q2 = false ∧ q3 = true ∧ q4 = true) := by
    cases q1 <;> cases q2 <;> cases q3 <;> cases q4 <;> simp
  rcases hcase with hcase | ⟨rfl, rfl, rfl, rfl⟩
  · rcases hcase with rfl | ⟨rfl, rfl⟩ | ⟨rfl, rfl, rfl⟩ | ⟨rfl, rfl, rfl, rfl⟩
    · go_enter Tryz.func99, Tryz.ntmps99
      go_wp2_with fail
      refine (I1 _).mono ?_
      rintro e w' ⟨rfl, rfl⟩
      go_wp2_with fail
      go_returns
      exact ⟨by simp, Lx⟩
    · go_enter Tryz.func99, Tryz.ntmps99
      go_wp2_with fail
      refine (I1 _).mono ?_
      rintro e w' ⟨rfl, rfl⟩
      go_wp2_with fail
      refine (I2 _ Sx).calls.mono ?_
      rintro e _ ⟨rfl, x1, rfl⟩
      go_wp2_with fail
      go_returns
      exact ⟨by simp, Lx⟩
    · go_enter Tryz.func99, Tryz.ntmps99
      go_wp2_with fail
      refine (I1 _).mono ?_
      rintro e w' ⟨rfl, rfl⟩
      go_wp2_with fail
      refine (I2 _ Sx).calls.mono ?_
      rintro e _ ⟨rfl, x1, rfl⟩
      go_wp2_with fail
      refine (I3 _).mono ?_
      rintro e w' ⟨rfl, rfl⟩
      go_wp2_with fail
      go_returns
      exact ⟨by simp, Lx⟩
    · go_enter Tryz.func99, Tryz.ntmps99
      go_wp2_with fail
      refine (I1 _).mono ?_
      rintro e w' ⟨rfl, rfl⟩
      go_wp2_with fail
      refine (I2 _ Sx).calls.mono ?_
      rintro e _ ⟨rfl, x1, rfl⟩
      go_wp2_with fail
      refine (I3 _).mono ?_
      rintro e w' ⟨rfl, rfl⟩
      go_wp2_with fail
      refine (I4 _).mono ?_
      rintro e w' ⟨rfl, rfl⟩
      go_wp2_with fail
      go_returns
      exact ⟨by simp, Lx⟩
  · have hR8 := hR8 rfl
    rw [show (true && (!false && (true && true)) && (sizesB R && setupB R)) = (sizesB R && setupB R) from by simp]
    go_enter Tryz.func99, Tryz.ntmps99
    go_wp2_with fail
    refine (I1 _).mono ?_
    rintro e w' ⟨rfl, rfl⟩
    go_wp2_with fail
    refine (I2 _ Sx).calls.mono ?_
    rintro e _ ⟨rfl, x1, rfl⟩
    go_wp2_with fail
    refine (I3 _).mono ?_
    rintro e w' ⟨rfl, rfl⟩
    go_wp2_with fail
    refine (I4 _).mono ?_
    rintro e w' ⟨rfl, rfl⟩
    go_wp2_with fail
    go_loopg [38] R.length (fun gas s38 wr => ∃ k : Nat, k ≤ R.length ∧ R.length - k ≤ gas ∧ s38 = .int .i64 k ∧ x1.wd = wr ∧ sizesB R = (R.drop k).all fun r => r.xs.length == R.length)
    case atStart => exact ⟨0, by omega, by omega, rfl, rfl, by rw [List.drop_zero]; rfl⟩
    case round =>
      obtain ⟨k, hk, hgas, rfl, rfl, hsz⟩ := hrel
      by_cases hlt : k < R.length
      · have hc := H.out.of (w' := x1.wd) Sx
        have hxs := (hc.all _ (List.getElem_mem hlt)).2
        obtain ⟨g, off, rfl, hr⟩ := hc.row.at_ (by omega)
        have hO := hr.there
        have r0 := hr.r0 k hlt
        rw [List.drop_eq_getElem_cons hlt, List.all_cons] at hsz
        generalize R[k] = r at *
        clear hc hr
        by_cases he : r.xs.length = R.length
        · rw [show (r.xs.length == R.length) = true from by simpa using he, Bool.true_and] at hsz
          have HZ := Lib.hid hsz
          clear hsz
          go_wp2_with fail
          go_roundg (R.length - (k + 1))
          case measure => omega
          case rel => exact ⟨k + 1, hlt, Nat.le_refl _, by go_num, rfl, HZ.out⟩
        · rw [show (r.xs.length == R.length) = false from by simpa using he, Bool.false_and] at hsz
          have HZ := Lib.hid hsz
          clear hsz
          have hne : (((r.xs.length : Int)) != ((R.length : Int))) = true := by simp; omega
          go_wp2_with fail
          go_returns
          exact ⟨by rw [HZ.out]; rfl, Lx⟩
      · have hkl : k = R.length := by omega
        rw [hkl, List.drop_length, List.all_nil] at hsz
        have hall : ∀ a (ha : a < R.length), R[a].xs.length = R.length := fun a ha => by
          have := List.all_eq_true.1 hsz R[a] (List.getElem_mem ha)
          simpa using this
        have HZ := Lib.hid (And.intro hsz hall)
        clear hsz hall hkl
        go_wp2_with fail
        go_loopg [52] R.length (fun gas s52 wr => ∃ a : Nat, a ≤ R.length ∧ R.length - a ≤ gas ∧ s52 = .int .i64 a ∧ LaterOf x1.wd wr ∧ setupB R = ((List.range R.length).drop a).all (lineB R))
        case atStart => exact ⟨0, by omega, by omega, rfl, Lx, by rw [List.drop_zero]; rfl⟩
        case round =>
          obtain ⟨a, ha, hgas, rfl, ⟨z, rfl⟩, hset⟩ := hrel
          by_cases hlta : a < R.length
          · rw [all_range _ hlta] at hset
            have hc := H.out.of (w' := z.wd) Sx
            obtain ⟨g, off, rfl, hr⟩ := hc.row.at_ (by omega)
            have hO := hr.there
            have r0 := hr.r0 a hlta
            have hxl := HZ.out.2 a hlta
            have hra := (hc.all _ (List.getElem_mem hlta)).1
            rw [hxl] at r0
            obtain ⟨ga, offa, hAa, hrow⟩ := hra.at_ (by omega)
            rw [hAa] at r0
            generalize R[a].c = ca at *
            have HS := Lib.hid (And.intro hset hrow)
            clear hset hrow hc hr hxl hra hAa
            go_wp2_with fail
            go_loopg [59] R.length (fun gas s59 wr => ∃ cc : Nat, cc ≤ R.length ∧ R.length - cc ≤ gas ∧ s59 = .int .i64 cc ∧ LaterOf z.wd wr ∧ lineB R a = ((List.range R.length).drop cc).all (cellB R a))
            case atStart => exact ⟨0, by omega, by omega, rfl, Lx, by rw [List.drop_zero]; rfl⟩
            case round =>
              obtain ⟨cc, hcc, hgas2, rfl, ⟨z2, rfl⟩, hline⟩ := hrel
              by_cases hltc : cc < R.length
              · rw [all_range _ hltc] at hline
                have hxl := HZ.out.2 a hlta
                have hrow2 := HS.out.2.of (w' := z2.wd) Sx
                have hOa := hrow2.there
                have n0 := hrow2.n0 cc (by omega)
                rw [← get2_at hlta (by omega)] at n0
                have I5 := fun W => in_any (get2 R a cc) 0 1000 W
                have hcell : cellB R a cc = (nearB R a cc && (List.range R.length).all (triB R a cc)) := rfl
                have hnear : nearB R a cc = ((decide (0 ≤ get2 R a cc) && decide (get2 R a cc ≤ 1000)) && !(a == cc && get2 R a cc != 0)) := rfl
                have hnac : get2 R a cc = get2 R a cc := rfl
                generalize hnv : get2 R a cc = nv at n0 I5 hnear
                generalize (decide (0 ≤ nv) && decide (nv ≤ 1000)) = q at *
                have hcase2 : (q = false ∧ nearB R a cc = false) ∨ (q = true ∧ ((a : Int) == (cc : Int)) = true ∧ (nv != 0) = true ∧ nearB R a cc = false) ∨ (q = true ∧ ((a : Int) == (cc : Int)) = true ∧ (nv != 0) = false ∧ nearB R a cc = true) ∨ (q = true ∧ ((a : Int) == (cc : Int)) = false ∧ nearB R a cc = true) := by
                  cases q
                  · exact .inl ⟨rfl, by rw [hnear]; rfl⟩
                  · by_cases hac : a = cc
                    · have e1 : ((a : Int) == (cc : Int)) = true := by simp; omega
                      have e2 : (a == cc) = true := by simpa using hac
                      rw [e2] at hnear
                      cases hn0 : (nv != 0)
                      · exact .inr (.inr (.inl ⟨rfl, e1, rfl, by rw [hnear, hn0]; rfl⟩))
                      · exact .inr (.inl ⟨rfl, e1, rfl, by rw [hnear, hn0]; rfl⟩)
                    · have e1 : ((a : Int) == (cc : Int)) = false := by simp; omega
                      have e2 : (a == cc) = false := by simpa using hac
                      rw [e2] at hnear
                      exact .inr (.inr (.inr ⟨rfl, e1, by rw [hnear]; rfl⟩))
                have HN := Lib.hid hnv
                clear hnear hnac hnv hxl
                have hfalse : nearB R a cc = false → setupB R = false := fun e => by rw [HS.out.1, hline, hcell, e]; rfl
                have HF := Lib.hid hfalse
                have HL := Lib.hid (And.intro hline (And.intro hcell hrow2))
                clear hfalse hline hcell hrow2
                rcases hcase2 with ⟨rfl, e⟩ | ⟨rfl, t1, t2, e⟩ | hcase2
                · go_wp2_with fail
                  refine (I5 _).mono ?_
                  rintro e w' ⟨rfl, rfl⟩
                  go_wp2_with fail
                  go_returns
                  exact ⟨by rw [HZ.out.1, HF.out (by assumption)]; rfl, Lx⟩
                · go_wp2_with fail
                  refine (I5 _).mono ?_
                  rintro e w' ⟨rfl, rfl⟩
                  go_wp2_with fail
                  go_returns
                  exact ⟨by rw [HZ.out.1, HF.out (by assumption)]; rfl, Lx⟩
                · rcases hcase2 with ⟨rfl, t1, t2, e⟩ | ⟨rfl, t1, e⟩
                  all_goals
                    have HE := Lib.hid e
                    clear e
                    go_wp2_with fail
                    refine (I5 _).mono ?_
                    rintro e w' ⟨rfl, rfl⟩
                    go_wp2_with fail
                    go_loopg [78] R.length (fun gas s78 wr => ∃ b : Nat, b ≤ R.length ∧ R.length - b ≤ gas ∧ s78 = .int .i64 b ∧ LaterOf z2.wd wr ∧ (List.range R.length).all (triB R a cc) = ((List.range R.length).drop b).all (triB R a cc))
                    case atStart => exact ⟨0, by omega, by omega, rfl, Lx, by rw [List.drop_zero]⟩
                    case round =>
                      obtain ⟨b, hb, hgas3, rfl, ⟨z3, rfl⟩, htri⟩ := hrel
                      by_cases hltb : b < R.length
                      · rw [all_range _ hltb] at htri
                        have hxl := HZ.out.2 a hlta
                        have hxb := HZ.out.2 b hltb
                        have hrow3 := HL.out.2.2.of (w' := z3.wd) Sx
                        have m0 := hrow3.n0 b (by omega)
                        rw [← get2_at hlta (by omega)] at m0
                        have hOa3 := hrow3.there
                        have hc3 := H.out.of (w' := z3.wd) Sx
                        have hrb := (hc3.all _ (List.getElem_mem hltb)).1
                        obtain ⟨g4, off4, hA4, hr4⟩ := hc3.row.at_ (by omega)
                        injection hA4 with hA4
                        injection hA4 with hg4 ho4
                        subst hg4 ho4
                        have hO4 := hr4.there
                        have r4 := hr4.r0 b hltb
                        obtain ⟨gb, offb, hAb, hrowb⟩ := hrb.at_ (by omega)
                        have hOb := hrowb.there
                        have l0 := hrowb.n0 cc (by omega)
                        rw [← get2_at hltb (by omega)] at l0
                        rw [hAb, hxb] at r4
                        have htr : triB R a cc b = decide (get2 R a cc ≤ wadd (get2 R a b) (get2 R b cc)) := rfl
                        rw [HN.out] at htr
                        generalize get2 R a b = u1 at *
                        generalize get2 R b cc = u2 at *
                        generalize R[b].c = cb at *
                        unfold wadd at htr
                        by_cases hle : nv ≤ wrap64 (u1 + u2)
                        · have hd : decide (wrap64 (u1 + u2) < nv) = false := by simp; omega
                          rw [htr, show decide (nv ≤ wrap64 (u1 + u2)) = true from by simpa using hle, Bool.true_and] at htri
                          have HT := Lib.hid htri
                          clear htri htr hle hxl hxb hrow3 hc3 hrb hr4 hAb hrowb
                          go_wp2_with fail
                          refine region_later (by kernel_rfl) (by kernel_rfl) ?_
                          repeat (go_big_quiet_step (fail))
                          refine wpQuiet_nil ?_
                          rintro _ ⟨z4, rfl⟩
                          go_wp2_with fail
                          go_roundg (R.length - (b + 1))
                          case measure => omega
                          case rel => exact ⟨b + 1, hltb, Nat.le_refl _, by go_num, Lx, HT.out⟩
                        · have hd : decide (wrap64 (u1 + u2) < nv) = true := by simp; omega
                          rw [htr, show decide (nv ≤ wrap64 (u1 + u2)) = false from by simpa using hle, Bool.false_and] at htri
                          have hfin : setupB R = false := by rw [HS.out.1, HL.out.1, HL.out.2.1, htri, Bool.and_false, Bool.false_and, Bool.false_and]
                          have HT := Lib.hid hfin
                          clear htri htr hle hxl hxb hrow3 hc3 hrb hr4 hAb hrowb hfin
                          go_wp2_with fail
                          refine region_later (by kernel_rfl) (by kernel_rfl) ?_
                          repeat (go_big_quiet_step (fail))
                          refine wpQuiet_nil ?_
                          rintro _ ⟨z4, rfl⟩
                          go_wp2_with fail
                          go_returns
                          exact ⟨by rw [HZ.out.1, HT.out]; rfl, Lx⟩
                      · have hbl : b = R.length := by omega
                        rw [hbl, all_range_end] at htri
                        have HT := Lib.hid htri
                        clear htri hbl
                        go_wp2_with fail
                        go_roundg (R.length - (cc + 1))
                        case measure => omega
                        case rel => exact ⟨cc + 1, hltc, Nat.le_refl _, by go_num, Lx, by rw [HL.out.1, HL.out.2.1, HE.out, HT.out, Bool.true_and, Bool.true_and]⟩
              · have hcl2 : cc = R.length := by omega
                rw [hcl2, all_range_end] at hline
                have HL := Lib.hid hline
                clear hline hcl2
                go_wp2_with fail
                go_roundg (R.length - (a + 1))
                case measure => omega
                case rel => exact ⟨a + 1, hlta, Nat.le_refl _, by go_num, Lx, by rw [HS.out.1, HL.out, Bool.true_and]⟩
          · have hal : a = R.length := by omega
            rw [hal, all_range_end] at hset
            have HS := Lib.hid hset
            clear hset hal
            go_wp2_with fail
            go_returns
            exact ⟨by rw [HZ.out.1, HS.out]; rfl, Lx⟩
end Go.Proofs.YtpaojgfmffkodaaGreat
/- Layer 52: job, Check. -/
namespace Go.Proofs.YtpaojgfmffkodaaGreat
set_option linter.unusedVariables false
set_option linter.unusedSimpArgs false
open Go.RowKit Go.Sort
attribute [local go_sem ↓] Go.wp_at_zero Go.wp_at_succ
structure JobR where
  A : Option Addr
  c : Nat
  ms : List Int
  dur : Int
  cls : Int
  rel : Int
  due : Int
  ord : Int
def encJ (j : JobR) : List Value := [.slice j.A j.ms.length j.c, .int .i64 j.dur, .int .i64 j.cls, .int .i64 j.rel, .int .i64 j.due, .int .i64 j.ord]
abbrev jobV (j : JobR) : Value := .agg #[.slice j.A j.ms.length j.c, .int .i64 j.dur, .int .i64 j.cls, .int .i64 j.rel, .int .i64 j.due, .int .i64 j.ord]
structure IsJobs (w : World) (A : Option Addr) (c : Nat) (L : List JobR) : Prop where
  row : IsRow encJ 6 w A c L
  all : ∀ j ∈ L, IsInts w j.A j.c j.ms ∧ j.ms.length < 4611686018427387904
  len : L.length < 4611686018427387904
theorem IsJobs.of {w w' : World} {A : Option Addr} {c : Nat} {L : List JobR} (h : IsJobs w A c L) (hs : SinceOf w w') : IsJobs w' A c L := ⟨h.row.of hs, fun x hx => ⟨(h.all x hx).1.of hs, (h.all x hx).2⟩, h.len⟩
section
variable {w : World} {g off : Nat} {l : List JobR}
theorem RowAt.j0 (h : RowAt encJ 6 w g off l) (i : Nat) (hi : i < l.length) : w.cell? ⟨g, off + i * 6, none⟩ = some (.slice l[i].A l[i].ms.length l[i].c) := h.cells i hi 0 _ rfl
theorem RowAt.j1 (h : RowAt encJ 6 w g off l) (i : Nat) (hi : i < l.length) : w.cell? ⟨g, off + i * 6 + 1, none⟩ = some (.int .i64 l[i].dur) := h.cells i hi 1 _ rfl
theorem RowAt.j2 (h : RowAt encJ 6 w g off l) (i : Nat) (hi : i < l.length) : w.cell? ⟨g, off + i * 6 + 2, none⟩ = some (.int .i64 l[i].cls) := h.cells i hi 2 _ rfl
theorem RowAt.j3 (h : RowAt encJ 6 w g off l) (i : Nat) (hi : i < l.length) : w.cell? ⟨g, off + i * 6 + 3, none⟩ = some (.int .i64 l[i].rel) := h.cells i hi 3 _ rfl
theorem RowAt.j4 (h : RowAt encJ 6 w g off l) (i : Nat) (hi : i < l.length) : w.cell? ⟨g, off + i * 6 + 4, none⟩ = some (.int .i64 l[i].due) := h.cells i hi 4 _ rfl
theorem RowAt.j5 (h : RowAt encJ 6 w g off l) (i : Nat) (hi : i < l.length) : w.cell? ⟨g, off + i * 6 + 5, none⟩ = some (.int .i64 l[i].ord) := h.cells i hi 5 _ rfl
end
def machB (n : Int) (ms : List Int) (i : Nat) : Bool := (decide (0 ≤ ms.getD i 0) && decide (ms.getD i 0 ≤ n - 1)) && !(decide (0 < i) && decide (ms.getD i 0 ≤ ms.getD (i - 1) 0))
def machsB (n : Int) (ms : List Int) : Bool := (List.range ms.length).all (machB n ms)
def restB (k : Int) (j : JobR) : Bool := decide (0 < j.ms.length) && ((decide (1 ≤ j.dur) && decide (j.dur ≤ 10000)) && ((decide (0 ≤ j.cls) && decide (j.cls ≤ k - 1)) && ((decide (0 ≤ j.rel) && decide (j.rel ≤ 1000000)) && ((decide (0 ≤ j.due) && decide (j.due ≤ 1000000)) && (decide (0 ≤ j.ord) && decide (j.ord ≤ 1000))))))
def jobB (s : ShopR) (j : JobR) : Bool := machsB s.cals.length j.ms && restB s.rows.length j
theorem getD_at {l : List Int} {i : Nat} (h : i < l.length) : l.getD i 0 = l[i] := by rw [List.getD_eq_getElem?_getD, List.getElem?_eq_getElem h, Option.getD_some]
set_option maxRecDepth 100000 in
set_option maxHeartbeats 8000000 in
theorem job_any (s : ShopR) (j : JobR) (w : World) (hj : IsInts w j.A j.c j.ms) (hl : j.ms.length < 4611686018427387904) (hcl : s.cals.length < 4611686018427387904) (hrl : s.rows.length < 4611686018427387904) : Gives Tryz.prog 102 #[shopV s, jobV j] w (.bool (jobB s j)) := by
  apply Gives.ret
  obtain ⟨A, c, cals, B, d, R, most⟩ := s
  obtain ⟨jA, jc, ms, dur, cls, rel, due, ord⟩ := j
  have hjb : jobB ⟨A, c, cals, B, d, R, most⟩ ⟨jA, jc, ms, dur, cls, rel, due, ord⟩ = (machsB cals.length ms && restB R.length ⟨jA, jc, ms, dur, cls, rel, due, ord⟩) := rfl
  rw [hjb]
  simp only at hj hl hcl hrl
  have H := Lib.hid (And.intro hj hjb)
  clear hj hjb
  go_enter Tryz.func102, Tryz.ntmps102
  go_wp2_with fail
  go_loopg [10] ms.length (fun gas s10 wr => ∃ i : Nat, i ≤ ms.length ∧ ms.length - i ≤ gas ∧ s10 = .int .i64 i ∧ ((w.alloc (.cells #[.slice A cals.length c, .slice B R.length d, .int .i64 most] 37)).alloc (.cells #[.slice jA ms.length jc, .int .i64 dur, .int .i64 cls, .int .i64 rel, .int .i64 due, .int .i64 ord] 85)) = wr ∧ machsB cals.length ms = ((List.range ms.length).drop i).all (machB cals.length ms))
  case atStart => exact ⟨0, by omega, by omega, rfl, rfl, by rw [List.drop_zero]; rfl⟩
  case round =>
    obtain ⟨i, hi, hgas, rfl, rfl, hm⟩ := hrel
    by_cases hlt : i < ms.length
    · rw [all_range _ hlt] at hm
      have hr := H.out.1.of (((SinceOf.refl w).alloc (.cells #[.slice A cals.length c, .slice B R.length d, .int .i64 most] 37)).alloc (.cells #[.slice jA ms.length jc, .int .i64 dur, .int .i64 cls, .int .i64 rel, .int .i64 due, .int .i64 ord] 85))
      obtain ⟨g, off, rfl, hr⟩ := hr.at_ (by omega)
      have hO := hr.there
      have m0 := hr.n0 i hlt
      have p0 := hr.n0 (i - 1) (by omega)
      rw [← getD_at hlt] at m0
      rw [← getD_at (by omega)] at p0
      have hmb : machB cals.length ms i = ((decide (0 ≤ ms.getD i 0) && decide (ms.getD i 0 ≤ (cals.length : Int) - 1)) && !(decide (0 < i) && decide (ms.getD i 0 ≤ ms.getD (i - 1) 0))) := rfl
      have I1 := fun W => in_any (ms.getD i 0) 0 ((cals.length : Int) - 1) W
      generalize hmv : ms.getD i 0 = mv at *
      generalize hpv : ms.getD (i - 1) 0 = pv at *
      generalize (decide (0 ≤ mv) && decide (mv ≤ (cals.length : Int) - 1)) = q at *
      have hcase : (q = false ∧ machB cals.length ms i = false) ∨ (q = true ∧ i = 0 ∧ machB cals.length ms i = true) ∨ (q = true ∧ 0 < i ∧ decide (0 < i) = true ∧ decide (mv ≤ pv) = true ∧ machB cals.length ms i = false) ∨ (q = true ∧ 0 < i ∧ decide (0 < i) = true ∧ decide (mv ≤ pv) = false ∧ machB cals.length ms i = true) := by
        cases q
        · exact .inl ⟨rfl, by rw [hmb]; rfl⟩
        · by_cases hi0 : i = 0
          · exact .inr (.inl ⟨rfl, hi0, by rw [hmb, hi0]; rfl⟩)
          · have e0 : decide (0 < i) = true := by simp; omega
            cases hle : decide (mv ≤ pv)
            · exact .inr (.inr (.inr ⟨rfl, by omega, e0, rfl, by rw [hmb, e0, hle]; rfl⟩))
            · exact .inr (.inr (.inl ⟨rfl, by omega, e0, rfl, by rw [hmb, e0, hle]; rfl⟩))
      clear hmb hr
      have HM := Lib.hid (And.intro hm (And.intro hmv hpv))
      clear hm hmv hpv
      rcases hcase with ⟨rfl, e⟩ | ⟨rfl, rfl, e⟩ | ⟨rfl, e0, e1, e2, e⟩ | ⟨rfl, e0, e1, e2, e⟩
      · have HE := Lib.hid e
        clear e
        go_wp2_with fail
        refine (I1 _).mono ?_
        rintro e w' ⟨rfl, rfl⟩
        go_wp2_with fail
        go_returns
        exact ⟨by rw [HM.out.1, HE.out]; rfl, Lx⟩
      · have HE := Lib.hid e
        clear e p0
        simp only [Nat.add_zero] at m0
        go_wp2_with fail
        refine (I1 _).mono ?_
        rintro e w' ⟨rfl, rfl⟩
        go_wp2_with fail
        go_roundg (ms.length - (0 + 1))
        case measure => omega
        case rel => exact ⟨0 + 1, hlt, Nat.le_refl _, by go_num, rfl, by rw [HM.out.1, HE.out, Bool.true_and]⟩
      · have HE := Lib.hid e
        clear e
        go_wp2_with fail
        refine (I1 _).mono ?_
        rintro e w' ⟨rfl, rfl⟩
        go_wp2_with fail
        go_returns
        exact ⟨by rw [HM.out.1, HE.out]; rfl, Lx⟩
      · have HE := Lib.hid e
        clear e
        go_wp2_with fail
        refine (I1 _).mono ?_
        rintro e w' ⟨rfl, rfl⟩
        go_wp2_with fail
        go_roundg (ms.length - (i + 1))
        case measure => omega
        case rel => exact ⟨i + 1, hlt, Nat.le_refl _, by go_num, rfl, by rw [HM.out.1, HE.out, Bool.true_and]⟩
    · have hil : i = ms.length := by omega
      rw [hil, all_range_end] at hm
      have hrb : restB R.length ⟨jA, jc, ms, dur, cls, rel, due, ord⟩ = (decide (0 < ms.length) && ((decide (1 ≤ dur) && decide (dur ≤ 10000)) && ((decide (0 ≤ cls) && decide (cls ≤ (R.length : Int) - 1)) && ((decide (0 ≤ rel) && decide (rel ≤ 1000000)) && ((decide (0 ≤ due) && decide (due ≤ 1000000)) && (decide (0 ≤ ord) && decide (ord ≤ 1000))))))) := rfl
      have I1 := fun W => in_any dur 1 10000 W
      have I2 := fun W => in_any cls 0 ((R.length : Int) - 1) W
      have I3 := fun W => in_any rel 0 1000000 W
      have I4 := fun W => in_any due 0 1000000 W
      have I5 := fun W => in_any ord 0 1000 W
      generalize (decide (1 ≤ dur) && decide (dur ≤ 10000)) = q1 at *
      generalize (decide (0 ≤ cls) && decide (cls ≤ (R.length : Int) - 1)) = q2 at *
      generalize (decide (0 ≤ rel) && decide (rel ≤ 1000000)) = q3 at *
      generalize (decide (0 ≤ due) && decide (due ≤ 1000000)) = q4 at *
      generalize (decide (0 ≤ ord) && decide (ord ≤ 1000)) = q5 at *
      have HM := Lib.hid (And.intro hm hrb)
      clear hm hrb hil
      have hcase : (decide (0 < ms.length) = false) ∨ (decide (0 < ms.length) = true ∧ q1 = false) ∨ (decide (0 < ms.length) = true ∧ q1 = true ∧ q2 = false) ∨ (decide (0 < ms.length) = true ∧ q1 = true ∧ q2 = true ∧ q3 = false) ∨ (decide (0 < ms.length) = true ∧ q1 = true ∧ q2 = true ∧ q3 = true ∧ q4 = false) ∨ (decide (0 < ms.length) = true ∧ q1 = true ∧ q2 = true ∧ q3 = true ∧ q4 = true) := by
        cases decide (0 < ms.length) <;> cases q1 <;> cases q2 <;> cases q3 <;> cases q4 <;> simp
      rcases hcase with e0 | ⟨e0, rfl⟩ | ⟨e0, rfl, rfl⟩ | ⟨e0, rfl, rfl, rfl⟩ | ⟨e0, rfl, rfl, rfl, rfl⟩ | ⟨e0, rfl, rfl, rfl, rfl⟩
      all_goals
        go_wp2_with fail
        try (refine (I1 _).mono ?_; rintro e w' ⟨rfl, rfl⟩; go_wp2_with fail)
        try (refine (I2 _).mono ?_; rintro e w' ⟨rfl, rfl⟩; go_wp2_with fail)
        try (refine (I3 _).mono ?_; rintro e w' ⟨rfl, rfl⟩; go_wp2_with fail)
        try (refine (I4 _).mono ?_; rintro e w' ⟨rfl, rfl⟩; go_wp2_with fail)
        try (refine (I5 _).mono ?_; rintro e w' ⟨rfl, rfl⟩; go_wp2_with fail)
        go_returns
        exact ⟨by rw [HM.out.1, HM.out.2, e0]; rfl, Lx⟩
end Go.Proofs.YtpaojgfmffkodaaGreat
