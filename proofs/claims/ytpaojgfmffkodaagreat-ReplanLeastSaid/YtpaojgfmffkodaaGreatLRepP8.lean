/- Layer 54 (plain): shops and jobs without the places of their slices; what is computed of them is the same. -/
import Derived.Test.YtpaojgfmffkodaaGreatLSch47
import Derived.Test.YtpaojgfmffkodaaGreatLCal10
namespace Go.Proofs.YtpaojgfmffkodaaGreat
set_option linter.unusedVariables false
set_option linter.unusedSimpArgs false
open Go.RowKit Go.Sort
def erC (x : CalR) : CalR := ⟨x.P, none, 0, x.S, none, 0, x.D⟩
def erR (x : RowR) : RowR := ⟨none, 0, x.xs⟩
def erJ (x : JobR) : JobR := ⟨none, 0, x.ms, x.dur, x.cls, x.rel, x.due, x.ord⟩
def erS (s : ShopR) : ShopR := ⟨none, 0, s.cals.map erC, none, 0, s.rows.map erR, s.most⟩
def erL (L : List JobR) : List JobR := L.map erJ
theorem getD_er {α β : Type} (f : α → β) (l : List α) (k : Nat) (d : α) : (l.map f).getD k (f d) = f (l.getD k d) := by
  rw [List.getD_eq_getElem?_getD, List.getD_eq_getElem?_getD, List.getElem?_map]
  cases l[k]? <;> rfl
section
variable (s : ShopR) (L : List JobR)
theorem erL_length : (erL L).length = L.length := by unfold erL; simp
theorem calAt_er (m : Int) : calAt (erS s) m = erC (calAt s m) := getD_er erC s.cals m.toNat ⟨0, none, 0, [], none, 0, []⟩
theorem jobAt_er (j : Int) : jobAt (erL L) j = erJ (jobAt L j) := getD_er erJ L j.toNat ⟨none, 0, [], 0, 0, 0, 0, 0⟩
theorem get2_er (R : List RowR) (a b : Nat) : get2 (R.map erR) a b = get2 R a b := by
  unfold get2
  rw [show (⟨none, 0, []⟩ : RowR) = erR ⟨none, 0, []⟩ from rfl, getD_er]
  rfl
theorem setupAt_er (a b : Int) : setupAt (erS s) (erL L) a b = setupAt s L a b := by
  unfold setupAt
  rw [jobAt_er, jobAt_er]
  exact get2_er _ _ _
theorem workAt_er (m a b : Int) : workAt (erS s) m a b = workAt s m a b := by unfold workAt; rw [calAt_er]; rfl
theorem finishAt_er (m t k : Int) : finishAt (erS s) m t k = finishAt s m t k := by unfold finishAt; rw [calAt_er]; rfl
theorem openAt_er (m t : Int) : openAt (erS s) m t = openAt s m t := by unfold openAt; rw [calAt_er]; rfl
theorem nextAt_er (m t : Int) : nextAt (erS s) m t = nextAt s m t := by unfold nextAt; rw [calAt_er]; rfl
theorem dur_er (j : Int) : (jobAt (erL L) j).dur = (jobAt L j).dur := by rw [jobAt_er]; rfl
theorem rel_er (j : Int) : (jobAt (erL L) j).rel = (jobAt L j).rel := by rw [jobAt_er]; rfl
theorem due_er (j : Int) : (jobAt (erL L) j).due = (jobAt L j).due := by rw [jobAt_er]; rfl
theorem ms_er (j : Int) : (jobAt (erL L) j).ms = (jobAt L j).ms := by rw [jobAt_er]; rfl
theorem ord_er (j : Int) : (jobAt (erL L) j).ord = (jobAt L j).ord := by rw [jobAt_er]; rfl
theorem followsB_er (a b : SlotR) : followsB (erS s) (erL L) a b = followsB s L a b := by unfold followsB; rw [workAt_er, setupAt_er]
theorem clashB_er (a b : SlotR) : clashB (erS s) (erL L) a b = clashB s L a b := by unfold clashB; rw [followsB_er, followsB_er]
theorem nameB_er (x : SlotR) : nameB (erS s) (erL L) x = nameB s L x := by
  unfold nameB
  rw [erL_length, show (erS s).cals.length = s.cals.length from List.length_map _]
theorem shiftB_er (x : SlotR) : shiftB (erS s) (erL L) x = shiftB s L x := by unfold shiftB; rw [openAt_er, dur_er, finishAt_er]
theorem slotE_er (a : List SlotR) (x : SlotR) : slotE (erS s) (erL L) a x = slotE s L a x := by
  unfold slotE
  rw [nameB_er, ms_er, rel_er, shiftB_er, show clashB (erS s) (erL L) x = clashB s L x from funext fun y => clashB_er s L x y]
theorem ordAt_er (x : SlotR) : ordAt (erL L) x = ordAt L x := by unfold ordAt; rw [ord_er]
theorem openN_er (t : Int) (l : List SlotR) : openN (erL L) t l = openN L t l := by
  unfold openN openTo begunB unfinB
  rw [show ordAt (erL L) = ordAt L from funext fun x => ordAt_er L x]
theorem validV_er (l : List SlotR) : validV (erS s) (erL L) l = validV s L l := by
  unfold validV
  rw [show fitE (erS s) (erL L) l = fitE s L l from funext fun k => by unfold fitE; rw [slotE_er], show openE (erS s) (erL L) l = openE s L l from funext fun k => by unfold openE; rw [openN_er]; rfl]
theorem shopB_er : shopB (erS s) = shopB s := by
  have h1 : (erS s).cals.length = s.cals.length := List.length_map _
  have h2 : (erS s).rows.length = s.rows.length := List.length_map _
  have h3 : (erS s).cals.any wrongC = s.cals.any wrongC := by
    show (s.cals.map erC).any wrongC = _
    rw [List.any_map]
    rfl
  have h4 : sizesB (erS s).rows = sizesB s.rows := by
    unfold sizesB
    rw [h2]
    show (s.rows.map erR).all _ = _
    rw [List.all_map]
    rfl
  have h5 : get2 (erS s).rows = get2 s.rows := funext fun a => funext fun b => get2_er _ _ _
  have h6 : setupB (erS s).rows = setupB s.rows := by
    unfold setupB lineB cellB nearB triB
    rw [h2, h5]
  unfold shopB headB
  rw [h1, h2, h3, h4, h6]
  rfl
theorem jobB_er (j : JobR) : jobB (erS s) (erJ j) = jobB s j := by
  have h1 : (erS s).cals.length = s.cals.length := List.length_map _
  have h2 : (erS s).rows.length = s.rows.length := List.length_map _
  unfold jobB
  rw [h1, h2]
  rfl
theorem checkS_er : checkS (erS s) (erL L) = checkS s L := by
  unfold checkS
  rw [shopB_er, erL_length]
  unfold erL
  rw [List.any_map, show ((fun j => !jobB (erS s) j) ∘ erJ) = fun j => !jobB s j from funext fun j => by simp [jobB_er]]
theorem validT_er (l : List SlotR) : validT (erS s) (erL L) l = validT s L l := by unfold validT; rw [checkS_er, validV_er]
theorem beginV_er (jb m : Int) : ∀ (l : List SlotR) (b : Int), beginV (erS s) (erL L) jb m b l = beginV s L jb m b l
  | [], b => rfl
  | x :: r, b => by
    unfold beginV
    rw [beginV_er jb m r, beginV_er jb m r, setupAt_er, finishAt_er]
theorem firstFit_er (l : List SlotR) (jb m : Int) : ∀ (ts : List Int), firstFit (erS s) (erL L) l jb m ts = firstFit s L l jb m ts
  | [] => rfl
  | t :: r => by
    unfold firstFit
    rw [firstFit_er l jb m r, nextAt_er, dur_er, finishAt_er, validV_er]
theorem onV_er (l : List SlotR) (jb m : Int) : onV (erS s) (erL L) l jb m = onV s L l jb m := by
  unfold onV
  rw [rel_er, beginV_er]
  cases beginV s L jb m (jobAt L jb).rel l with
  | none => rfl
  | some b => exact firstFit_er s L l jb m _
theorem dispatchV_er (l : List SlotR) (j : Int) : dispatchV (erS s) (erL L) l j = dispatchV s L l j := by
  unfold dispatchV
  rw [ms_er, show (fun (best : Option SlotR) (m : Int) => betterS best (onV (erS s) (erL L) l j m)) = fun best m => betterS best (onV s L l j m) from funext fun b => funext fun m => by rw [onV_er]]
theorem lateOf_er (x : SlotR) : lateOf (erL L) x = lateOf L x := by unfold lateOf; rw [due_er]
theorem tardyL_er : ∀ (l : List SlotR), tardyL (erL L) l = tardyL L l
  | [] => rfl
  | x :: r => by unfold tardyL; rw [lateOf_er, tardyL_er r]
theorem priceV_er (l : List SlotR) : priceV (erL L) l = priceV L l := by
  unfold priceV worstL
  rw [erL_length, tardyL_er, show lateOf (erL L) = lateOf L from funext fun x => lateOf_er L x]
theorem erL_erL : erL (erL L) = erL L := by unfold erL; rw [List.map_map]; rfl
theorem erS_erS : erS (erS s) = erS s := by
  unfold erS
  simp only [List.map_map]
  rfl
end
end Go.Proofs.YtpaojgfmffkodaaGreat
/- Layer 54 (plain): states behind events. -/
namespace Go.Proofs.YtpaojgfmffkodaaGreat
set_option linter.unusedVariables false
set_option linter.unusedSimpArgs false
open Go.RowKit Go.Sort
def insP (p : Int × Int) : List (Int × Int) → List (Int × Int)
  | [] => [p]
  | q :: r => if p.1 ≤ q.1 then p :: q :: r else q :: insP p r
def closeL (D : List (Int × Int)) (a b : Int) : List (Int × Int) := (if a < b then insP (a, b) D else D).foldl mergeI []
def closeV (P : Int) (S D : List (Int × Int)) (a b : Int) : Option (List (Int × Int)) := if (validB P S D && checkB a b) = true ∧ (closeL D a b).length ≤ 20 then some (closeL D a b) else none
theorem insP_perm (p : Int × Int) : ∀ l, (insP p l).Perm (p :: l)
  | [] => List.Perm.refl _
  | q :: r => by
    unfold insP
    split
    · exact List.Perm.refl _
    · exact ((insP_perm p r).cons q).trans (List.Perm.swap _ _ _)
theorem insP_sorted (p : Int × Int) : ∀ {l : List (Int × Int)}, l.Pairwise (fun a b => a.1 ≤ b.1) → (insP p l).Pairwise (fun a b => a.1 ≤ b.1)
  | [], _ => by unfold insP; simp
  | q :: r, h => by
    rw [List.pairwise_cons] at h
    unfold insP
    split
    · rename_i hle
      rw [List.pairwise_cons]
      refine ⟨fun x hx => ?_, List.pairwise_cons.2 h⟩
      rcases List.mem_cons.1 hx with rfl | hx
      · exact hle
      · exact Int.le_trans hle (h.1 x hx)
    · rename_i hle
      rw [List.pairwise_cons]
      refine ⟨fun x hx => ?_, insP_sorted p h.2⟩
      rcases List.mem_cons.1 ((insP_perm p r).mem_iff.1 hx) with rfl | hx
      · omega
      · exact h.1 x hx
theorem ascI_sorted {most : Int} : ∀ {l : List (Int × Int)} {last : Int}, ascI most last l = true → l.Pairwise (fun a b => a.1 ≤ b.1)
  | [], _, _ => by simp
  | q :: r, last, h => by
    obtain ⟨h1, h2, h3, h4⟩ := ascI_cons.1 h
    rw [List.pairwise_cons]
    exact ⟨fun x hx => by have := (ascI_mem h4 x hx).1; omega, ascI_sorted h4⟩
theorem closeL_ok {D : List (Int × Int)} {a b : Int} (hD : ascI 1000000 (-1) D = true) (hc : checkB a b = true) : ascI 1000000 (-1) (closeL D a b) = true ∧ ∀ t, inI (closeL D a b) t = (inI D t || decide (a ≤ t ∧ t < b)) := by
  unfold checkB at hc
  simp only [Bool.and_eq_true, decide_eq_true_eq] at hc
  obtain ⟨⟨h0, h1⟩, h2⟩ := hc
  have hm := ascI_mem hD
  unfold closeL
  by_cases hab : a < b
  · rw [if_pos hab]
    have := merged_ok (most := 1000000) (l := insP (a, b) D) (out := []) rfl (fun d hd => by
      rcases List.mem_cons.1 ((insP_perm (a, b) D).mem_iff.1 hd) with rfl | hd
      · exact ⟨h0, h0, hab, h2⟩
      · have := hm d hd
        exact ⟨by show (0 : Int) ≤ d.1; omega, by omega, this.2.1, this.2.2⟩) (insP_sorted _ (ascI_sorted hD))
    refine ⟨this.1, fun t => ?_⟩
    rw [this.2, List.nil_append, inI_perm (insP_perm (a, b) D), inI_cons, Bool.or_comm]
  · rw [if_neg hab]
    have := merged_ok (most := 1000000) (l := D) (out := []) rfl (fun d hd => by
      have := hm d hd
      exact ⟨by show (0 : Int) ≤ d.1; omega, by omega, this.2.1, this.2.2⟩) (ascI_sorted hD)
    refine ⟨this.1, fun t => ?_⟩
    rw [this.2, List.nil_append, show decide (a ≤ t ∧ t < b) = false from by simp; omega, Bool.or_false]
theorem closeR_fn {P a b e P' : Int} {S D S' D' : List (Int × Int)} (h : CloseR P S D a b e P' S' D') : match closeV P S D a b with
    | some M => e = 0 ∧ P' = P ∧ S' = S ∧ D' = M
    | none => e ≠ 0 := by
  unfold closeV
  rcases h with ⟨h1, h2, -⟩ | ⟨hg, hc, M, hM, hs, hr⟩
  · rw [if_neg (by rw [h1]; simp)]
    rw [h2]
    unfold errI
    cases hv : validB P S D <;> cases hk : checkB a b <;> simp [hv, hk] at h1 ⊢
  · have hv : validB P S D = true := validB_iff.2 hg
    obtain ⟨k1, k2⟩ := closeL_ok hg.d hc
    obtain rfl : M = closeL D a b := ascI_unique hM k1 (fun t => by rw [hs, k2])
    rcases hr with ⟨hl, he, hP, hS, hD⟩ | ⟨hl, he, -⟩
    · rw [if_pos ⟨by rw [hv, hc]; rfl, hl⟩]
      exact ⟨he, hP, hS, hD⟩
    · rw [if_neg (fun h => by omega)]
      show e ≠ 0
      omega
structure EvR where
  kind : Int
  mach : Int
  frm : Int
  till : Int
  job : Int
structure StP where
  s : ShopR
  L : List JobR
  bg : List SlotR
  pd : List SlotR
  dr : List Bool
def noShop : ShopR := ⟨none, 0, [], none, 0, [], 0⟩
def noSt : StP := ⟨noShop, [], [], [], []⟩
def begunJ (bg : List SlotR) (j : Int) : Bool := bg.any fun x => x.job == j
def setCal (s : ShopR) (m : Int) (K : CalR) : ShopR := ⟨s.A, s.c, s.cals.set m.toNat K, s.B, s.d, s.rows, s.most⟩
def shutV (x : StP) (now : Int) (v : EvR) : Int × StP :=
  if v.job = 0 then
    if v.mach < 0 ∨ (x.s.cals.length : Int) ≤ v.mach then (6, x) else
    if v.frm < now ∨ v.till < v.frm ∨ 1000000 < v.till then (2, x) else
    match closeV (calAt x.s v.mach).P (calAt x.s v.mach).S (calAt x.s v.mach).D v.frm v.till with
    | some M => (0, ⟨setCal x.s v.mach ⟨(calAt x.s v.mach).P, none, 0, (calAt x.s v.mach).S, none, 0, M⟩, x.L, x.bg, x.pd, x.dr⟩)
    | none => (9, x)
  else (1, x)
def dropV (x : StP) (j : Int) : Int × StP :=
  if (begunJ x.bg j || x.dr.getD j.toNat false) = true then (10, x) else (0, ⟨x.s, x.L, x.bg, x.pd, x.dr.set j.toNat true⟩)
def againV (x : StP) (j : Int) : Int × StP :=
  if begunJ x.bg j = false then (10, x) else if 40 ≤ x.L.length then (9, x) else (0, ⟨x.s, x.L ++ [jobAt x.L j], x.bg, x.pd, x.dr ++ [false]⟩)
def aboutE (x : StP) (v : EvR) : Int := if v.mach ≠ 0 ∨ v.frm ≠ 0 ∨ v.till ≠ 0 then 1 else if v.job < 0 ∨ (x.L.length : Int) ≤ v.job then 6 else 0
def stepV (x : StP) (now : Int) (v : EvR) : Int × StP :=
  if v.kind = 1 then shutV x now v else
  if v.kind ≠ 2 ∧ v.kind ≠ 3 then (1, x) else
  if aboutE x v ≠ 0 then (aboutE x v, x) else
  if v.kind = 3 then dropV x v.job else againV x v.job
def runV (now : Int) : StP → List EvR → Int × StP
  | x, [] => (0, x)
  | x, v :: r => if (stepV x now v).1 = 0 then runV now (stepV x now v).2 r else ((stepV x now v).1, (stepV x now v).2)
def laterJ (bg : List SlotR) (now : Int) (i : Nat) (j : JobR) : JobR := if begunJ bg i = true then j else ⟨j.A, j.c, j.ms, j.dur, j.cls, imax j.rel now, j.due, j.ord⟩
def endsV (s : ShopR) (L : List JobR) : List SlotR → Option (List SlotR)
  | [] => some []
  | x :: r => if (finishAt s x.mach x.start (jobAt L x.job).dur).2 = 0 then (endsV s L r).map fun t => ⟨x.job, x.mach, x.start, (finishAt s x.mach x.start (jobAt L x.job).dur).1⟩ :: t else none
def leS (a b : SlotR) : Bool := decide (a.start < b.start) || (a.start == b.start && decide (a.job ≤ b.job))
def insS (x : SlotR) : List SlotR → List SlotR
  | [] => [x]
  | y :: r => if leS x y = true then x :: y :: r else y :: insS x r
def sortS : List SlotR → List SlotR
  | [] => []
  | x :: r => insS x (sortS r)
def lastV (x : StP) (now : Int) : Int × StP :=
  match endsV x.s (x.L.mapIdx (laterJ x.bg now)) x.bg with
  | some b => (0, ⟨x.s, x.L.mapIdx (laterJ x.bg now), b, sortS (x.pd.filter fun y => !x.dr.getD y.job.toNat false), x.dr⟩)
  | none => (8, noSt)
def startV (s : ShopR) (L : List JobR) (plan : List SlotR) (now : Int) : StP := ⟨erS s, erL L, plan.filter (fun x => decide (x.start < now)), plan.filter (fun x => !decide (x.start < now)), L.map fun _ => false⟩
def applyV (s : ShopR) (L : List JobR) (plan : List SlotR) (now : Int) (evs : List EvR) : Int × StP :=
  if (validT s L plan).2 = 0 then
    if now < 0 ∨ 1000000 < now then (2, noSt) else
    if 20 < evs.length then (9, noSt) else
    if (runV now (startV s L plan now) evs).1 = 0 then lastV (runV now (startV s L plan now) evs).2 now else ((runV now (startV s L plan now) evs).1, noSt)
  else ((validT s L plan).2, noSt)
end Go.Proofs.YtpaojgfmffkodaaGreat
/- Layer 54 (plain): keeping slots, replanning, the least change. -/
namespace Go.Proofs.YtpaojgfmffkodaaGreat
set_option linter.unusedVariables false
set_option linter.unusedSimpArgs false
open Go.RowKit Go.Sort
structure ResR where
  slots : List SlotR
  moved : List Int
  left : List Int
def noRes : ResR := ⟨[], [], []⟩
def keptB (n : Nat) : Int → List Int → Bool
  | last, [] => true
  | last, k :: r => (decide (last < k) && decide (k < n)) && keptB n k r
def keptL (x : StP) (kept : List Int) : List SlotR := kept.map fun k => x.pd.getD k.toNat noSlot
def movedL (x : StP) (kept : List Int) : List Int := ((List.range x.pd.length).filter fun (i : Nat) => !kept.contains (i : Int)).map fun i => (x.pd.getD i noSlot).job
def insD (f : Int → Int) (i : Int) : List Int → List Int
  | [] => [i]
  | y :: r => if f i < f y then i :: y :: r else y :: insD f i r
def dueOf (L : List JobR) (j : Int) : Int := (jobAt L j).due
def freeJ (x : StP) (l : List SlotR) (j : Nat) : Bool := !x.dr.getD j false && !l.any (fun y => y.job == (j : Int))
def freeL (x : StP) (l : List SlotR) (n : Nat) : List Int := ((List.range n).filter (freeJ x l)).map fun (j : Nat) => (j : Int)
def sortD (f : Int → Int) (l : List Int) : List Int := l.foldl (fun out i => insD f i out) []
def restV (x : StP) (l : List SlotR) : List Int := sortD (dueOf x.L) (freeL x l x.L.length)
def dispAll (s : ShopR) (L : List JobR) : List SlotR → List Int → List Int → List SlotR × List Int
  | l, left, [] => (l, left)
  | l, left, j :: r => match dispatchV s L l j with
    | some y => dispAll s L (l ++ [y]) left r
    | none => dispAll s L l (left ++ [j]) r
def keepV (x : StP) (kept : List Int) : Int × ResR :=
  if keptB x.pd.length (-1) kept = true then
    if (validT x.s x.L (x.bg ++ keptL x kept)).2 = 0 then
      (0, ⟨(dispAll x.s x.L (x.bg ++ keptL x kept) [] (restV x (x.bg ++ keptL x kept))).1, sortI (movedL x kept), sortI (dispAll x.s x.L (x.bg ++ keptL x kept) [] (restV x (x.bg ++ keptL x kept))).2⟩)
    else (31, noRes)
  else (2, noRes)
def chosenTo (x : StP) : Nat → List SlotR × List Int
  | 0 => (x.bg, [])
  | n + 1 => if (validT x.s x.L ((chosenTo x n).1 ++ [x.pd.getD n noSlot])).2 = 0 then ((chosenTo x n).1 ++ [x.pd.getD n noSlot], (chosenTo x n).2 ++ [(n : Int)]) else chosenTo x n
def replanV (x : StP) : Int × ResR := keepV x (chosenTo x x.pd.length).2
def costQ (L : List JobR) (a b : List SlotR) : Bool := lessC (priceV L a).job (priceV L a).mach (priceV L a).start (priceV L a).stop (priceV L b).job (priceV L b).mach (priceV L b).start (priceV L b).stop
def betterB (L : List JobR) (a b : ResR) : Bool :=
  if a.left.length ≠ b.left.length then decide (a.left.length < b.left.length) else if a.moved.length ≠ b.moved.length then decide (a.moved.length < b.moved.length) else costQ L a.slots b.slots
def bitsL (n set : Nat) : List Int := ((List.range n).filter fun i => set.testBit i).map fun (i : Nat) => (i : Int)
def leastStep (x : StP) (best : Option ResR) (set : Nat) : Option ResR :=
  if (keepV x (bitsL x.pd.length set)).1 = 0 then (match best with
    | none => some (keepV x (bitsL x.pd.length set)).2
    | some b => if betterB x.L (keepV x (bitsL x.pd.length set)).2 b = true then some (keepV x (bitsL x.pd.length set)).2 else some b) else best
def leastTo (x : StP) : Nat → Option ResR → Option ResR
  | 0, best => best
  | k + 1, best => leastTo x k (leastStep x best k)
def leastV (x : StP) : Int × ResR :=
  if 8 < x.pd.length then (9, noRes) else match leastTo x (2 ^ x.pd.length) none with
    | some r => (0, r)
    | none => (31, noRes)
theorem keptB_mem {n : Nat} : ∀ {l : List Int} {last : Int}, -1 ≤ last → keptB n last l = true → ∀ k ∈ l, last < k ∧ 0 ≤ k ∧ k < n
  | [], _, _, _, k, hk => by cases hk
  | a :: r, last, h0, h, k, hk => by
    unfold keptB at h
    simp only [Bool.and_eq_true, decide_eq_true_eq] at h
    obtain ⟨⟨h1, h2⟩, h3⟩ := h
    rcases List.mem_cons.1 hk with rfl | hk
    · omega
    · have := keptB_mem (by omega) h3 k hk
      omega
theorem keptB_nodup {n : Nat} : ∀ {l : List Int} {last : Int}, -1 ≤ last → keptB n last l = true → l.Nodup
  | [], _, _, _ => by simp
  | a :: r, last, h0, h => by
    unfold keptB at h
    simp only [Bool.and_eq_true, decide_eq_true_eq] at h
    obtain ⟨⟨h1, h2⟩, h3⟩ := h
    rw [List.nodup_cons]
    exact ⟨fun hm => by have := keptB_mem (by omega) h3 a hm; omega, keptB_nodup (by omega) h3⟩
theorem keptB_filter {n : Nat} (p : Nat → Bool) : ∀ (m k : Nat) (last : Int), last < k → k + m ≤ n → keptB n last (((List.range' k m).filter p).map fun (i : Nat) => (i : Int)) = true
  | 0, k, last, h, hn => rfl
  | m + 1, k, last, h, hn => by
    rw [List.range'_succ, List.filter_cons]
    split
    · rw [List.map_cons]
      unfold keptB
      rw [keptB_filter p m (k + 1) k (by omega) (by omega)]
      simp
      omega
    · exact keptB_filter p m (k + 1) last (by omega) (by omega)
theorem bitsL_kept (n set : Nat) : keptB n (-1) (bitsL n set) = true := by
  unfold bitsL
  rw [List.range_eq_range']
  exact keptB_filter _ n 0 (-1) (by omega) (by omega)
theorem keptB_snoc {n : Nat} : ∀ {l : List Int} {last k : Int}, keptB n last l = true → (∀ y ∈ l, y < k) → last < k → k < n → keptB n last (l ++ [k]) = true
  | [], last, k, _, _, h1, h2 => by simp [keptB, h1, h2]
  | a :: r, last, k, h, hy, h1, h2 => by
    unfold keptB at h
    simp only [Bool.and_eq_true, decide_eq_true_eq] at h
    obtain ⟨⟨h3, h4⟩, h5⟩ := h
    rw [List.cons_append]
    unfold keptB
    rw [keptB_snoc h5 (fun y hy' => hy y (by simp [hy'])) (hy a (by simp)) h2]
    simp [h3, h4]
theorem chosen_kept (x : StP) : ∀ n, n ≤ x.pd.length → keptB x.pd.length (-1) (chosenTo x n).2 = true ∧ (∀ k ∈ (chosenTo x n).2, k < n) ∧ (chosenTo x n).1 = x.bg ++ keptL x (chosenTo x n).2
  | 0, _ => ⟨rfl, (by intro k hk; cases hk), by unfold chosenTo keptL; simp⟩
  | n + 1, hn => by
    obtain ⟨h1, h2, h3⟩ := chosen_kept x n (by omega)
    unfold chosenTo
    split
    · refine ⟨keptB_snoc h1 h2 (by omega) (by omega), fun k hk => ?_, ?_⟩
      · rcases List.mem_append.1 hk with hk | hk
        · have := h2 k hk; omega
        · rw [List.mem_singleton] at hk; omega
      · show (chosenTo x n).1 ++ [x.pd.getD n noSlot] = x.bg ++ keptL x ((chosenTo x n).2 ++ [(n : Int)])
        unfold keptL at h3 ⊢
        rw [List.map_append, ← List.append_assoc, ← h3]
        simp
    · exact ⟨h1, fun k hk => by have := h2 k hk; omega, h3⟩
end Go.Proofs.YtpaojgfmffkodaaGreat
/- Layer 54 (plain): sorted lists are unique; the order of slots; the stable order of jobs. -/
namespace Go.Proofs.YtpaojgfmffkodaaGreat
set_option linter.unusedVariables false
set_option linter.unusedSimpArgs false
open Go.RowKit Go.Sort
theorem sorted_unique {α : Type} {r : α → α → Prop} : ∀ {l m : List α}, l.Perm m → l.Pairwise r → m.Pairwise r → (∀ a b, a ∈ l → b ∈ l → r a b → r b a → a = b) → l = m
  | [], m, h, _, _, _ => (List.nil_perm.1 h).symm
  | a :: l, [], h, _, _, _ => absurd h.symm (by simp)
  | a :: l, b :: m, h, hl, hm, ha => by
    rw [List.pairwise_cons] at hl hm
    have e : a = b := by
      rcases List.mem_cons.1 (h.mem_iff.1 (show a ∈ a :: l by simp)) with e | h1
      · exact e
      · rcases List.mem_cons.1 (h.mem_iff.2 (show b ∈ b :: m by simp)) with e | h2
        · exact e.symm
        · exact ha a b (by simp) (by simp [h2]) (hl.1 b h2) (hm.1 a h1)
    subst e
    rw [sorted_unique (List.Perm.cons_inv h) hl.2 hm.2 (fun x y hx hy => ha x y (by simp [hx]) (by simp [hy]))]
theorem sortI_unique {l m : List Int} (h : m.Perm l) (hs : m.Pairwise (· ≤ ·)) : m = sortI l :=
  sorted_unique (h.trans (sortI_perm l).symm) hs (sortI_sorted l) (fun a b _ _ h1 h2 => Int.le_antisymm h1 h2)
theorem leS_total (a b : SlotR) (h : leS a b = false) : leS b a = true := by
  unfold leS at *
  simp only [Bool.or_eq_false_iff, Bool.and_eq_false_iff, decide_eq_false_iff_not, beq_eq_false_iff_ne, Bool.or_eq_true, Bool.and_eq_true, decide_eq_true_eq, beq_iff_eq] at *
  omega
theorem leS_trans {a b c : SlotR} (h : leS a b = true) (k : leS b c = true) : leS a c = true := by
  unfold leS at *
  simp only [Bool.or_eq_true, Bool.and_eq_true, decide_eq_true_eq, beq_iff_eq] at *
  omega
theorem leS_job {a b : SlotR} (h : leS a b = true) (k : leS b a = true) : a.job = b.job := by
  unfold leS at *
  simp only [Bool.or_eq_true, Bool.and_eq_true, decide_eq_true_eq, beq_iff_eq] at *
  omega
theorem insS_perm (x : SlotR) : ∀ l, (insS x l).Perm (x :: l)
  | [] => List.Perm.refl _
  | y :: r => by
    unfold insS
    split
    · exact List.Perm.refl _
    · exact ((insS_perm x r).cons y).trans (List.Perm.swap _ _ _)
theorem insS_sorted (x : SlotR) : ∀ {l : List SlotR}, l.Pairwise (fun a b => leS a b = true) → (insS x l).Pairwise (fun a b => leS a b = true)
  | [], _ => by unfold insS; simp
  | y :: r, h => by
    rw [List.pairwise_cons] at h
    unfold insS
    split
    · rename_i hle
      rw [List.pairwise_cons]
      refine ⟨fun z hz => ?_, List.pairwise_cons.2 h⟩
      rcases List.mem_cons.1 hz with rfl | hz
      · exact hle
      · exact leS_trans hle (h.1 z hz)
    · rename_i hle
      rw [List.pairwise_cons]
      refine ⟨fun z hz => ?_, insS_sorted x h.2⟩
      rcases List.mem_cons.1 ((insS_perm x r).mem_iff.1 hz) with rfl | hz
      · exact leS_total _ _ (by simpa using hle)
      · exact h.1 z hz
theorem sortS_perm : ∀ l, (sortS l).Perm l
  | [] => List.Perm.refl _
  | x :: r => (insS_perm x (sortS r)).trans ((sortS_perm r).cons x)
theorem sortS_sorted : ∀ l, (sortS l).Pairwise (fun a b => leS a b = true)
  | [] => by unfold sortS; simp
  | x :: r => insS_sorted x (sortS_sorted r)
theorem nodup_job {l : List SlotR} (h : (l.map (·.job)).Nodup) : ∀ a b, a ∈ l → b ∈ l → a.job = b.job → a = b := by
  induction l with
  | nil => intro a b ha; cases ha
  | cons x r ih =>
    rw [List.map_cons, List.nodup_cons] at h
    intro a b ha hb e
    rcases List.mem_cons.1 ha with e1 | h1 <;> rcases List.mem_cons.1 hb with e2 | h2
    · rw [e1, e2]
    · exact absurd (List.mem_map.2 ⟨b, h2, by rw [← e1]; exact e.symm⟩) h.1
    · exact absurd (List.mem_map.2 ⟨a, h1, by rw [← e2]; exact e⟩) h.1
    · exact ih h.2 a b h1 h2 e
theorem sortS_unique {l m : List SlotR} (hn : (l.map (·.job)).Nodup) (h : m.Perm l) (hs : m.Pairwise (fun a b => leS a b = true)) : m = sortS l :=
  sorted_unique (h.trans (sortS_perm l).symm) hs (sortS_sorted l) (fun a b ha hb h1 h2 => nodup_job hn a b (h.mem_iff.1 ha) (h.mem_iff.1 hb) (leS_job h1 h2))
def upI (n : Int) : List Int → List Int
  | [] => [n]
  | y :: r => if n < y then n :: y :: r else y :: upI n r
theorem upI_perm (x : Int) : ∀ l, (upI x l).Perm (x :: l)
  | [] => List.Perm.refl _
  | y :: r => by
    unfold upI
    split
    · exact List.Perm.refl _
    · exact ((upI_perm x r).cons y).trans (List.Perm.swap _ _ _)
theorem upI_sorted (x : Int) : ∀ {l : List Int}, l.Pairwise (· ≤ ·) → (upI x l).Pairwise (· ≤ ·)
  | [], _ => by unfold upI; simp
  | y :: r, h => by
    rw [List.pairwise_cons] at h
    unfold upI
    split
    · rename_i hle
      rw [List.pairwise_cons]
      refine ⟨fun z hz => ?_, List.pairwise_cons.2 h⟩
      rcases List.mem_cons.1 hz with rfl | hz
      · omega
      · have := h.1 z hz; omega
    · rename_i hle
      rw [List.pairwise_cons]
      refine ⟨fun z hz => ?_, upI_sorted x h.2⟩
      rcases List.mem_cons.1 ((upI_perm x r).mem_iff.1 hz) with rfl | hz
      · omega
      · exact h.1 z hz
def upAll (acc : List Int) (l : List Int) : List Int := l.foldl (fun acc x => upI x acc) acc
theorem upAll_ok : ∀ (l acc : List Int), acc.Pairwise (· ≤ ·) → (upAll acc l).Perm (acc ++ l) ∧ (upAll acc l).Pairwise (· ≤ ·)
  | [], acc, h => by unfold upAll; simp [h]
  | x :: r, acc, h => by
    obtain ⟨h1, h2⟩ := upAll_ok r (upI x acc) (upI_sorted x h)
    refine ⟨h1.trans ?_, h2⟩
    refine ((upI_perm x acc).append_right r).trans ?_
    rw [List.cons_append]
    exact List.perm_middle.symm
theorem upAll_sort (l : List Int) : upAll [] l = sortI l := by
  obtain ⟨h1, h2⟩ := upAll_ok l [] (by simp)
  exact sortI_unique (by simpa using h1) h2
theorem insD_perm (f : Int → Int) (i : Int) : ∀ l, (insD f i l).Perm (i :: l)
  | [] => List.Perm.refl _
  | y :: r => by
    unfold insD
    split
    · exact List.Perm.refl _
    · exact ((insD_perm f i r).cons y).trans (List.Perm.swap _ _ _)
theorem insD_sorted (f : Int → Int) (i : Int) : ∀ {l : List Int}, l.Pairwise (fun a b => f a ≤ f b) → (insD f i l).Pairwise (fun a b => f a ≤ f b)
  | [], _ => by unfold insD; simp
  | y :: r, h => by
    rw [List.pairwise_cons] at h
    unfold insD
    split
    · rename_i hle
      rw [List.pairwise_cons]
      refine ⟨fun z hz => ?_, List.pairwise_cons.2 h⟩
      rcases List.mem_cons.1 hz with rfl | hz
      · omega
      · have := h.1 z hz; omega
    · rename_i hle
      rw [List.pairwise_cons]
      refine ⟨fun z hz => ?_, insD_sorted f i h.2⟩
      rcases List.mem_cons.1 ((insD_perm f i r).mem_iff.1 hz) with rfl | hz
      · omega
      · exact h.1 z hz
theorem sortD_ok (f : Int → Int) : ∀ (l acc : List Int), acc.Pairwise (fun a b => f a ≤ f b) → (l.foldl (fun out i => insD f i out) acc).Perm (acc ++ l) ∧ (l.foldl (fun out i => insD f i out) acc).Pairwise (fun a b => f a ≤ f b)
  | [], acc, h => by simp [h]
  | x :: r, acc, h => by
    obtain ⟨h1, h2⟩ := sortD_ok f r (insD f x acc) (insD_sorted f x h)
    refine ⟨h1.trans ?_, h2⟩
    refine ((insD_perm f x acc).append_right r).trans ?_
    rw [List.cons_append]
    exact List.perm_middle.symm
theorem sortD_perm (f : Int → Int) (l : List Int) : (sortD f l).Perm l := by
  have := (sortD_ok f l [] (by simp)).1
  rw [List.nil_append] at this
  exact this
theorem sortD_sorted (f : Int → Int) (l : List Int) : (sortD f l).Pairwise (fun a b => f a ≤ f b) := (sortD_ok f l [] (by simp)).2
theorem sortD_snoc (f : Int → Int) (l : List Int) (i : Int) : sortD f (l ++ [i]) = insD f i (sortD f l) := by unfold sortD; rw [List.foldl_append]; rfl
theorem insD_split (f : Int → Int) (i : Int) : ∀ {a b : List Int}, (∀ x ∈ a, f x ≤ f i) → (∀ x ∈ b, f i < f x) → insD f i (a ++ b) = a ++ i :: b
  | [], [], _, _ => rfl
  | [], y :: b, _, h => by
    rw [List.nil_append, List.nil_append]
    unfold insD
    rw [if_pos (h y (by simp))]
  | x :: a, b, h1, h2 => by
    rw [List.cons_append, List.cons_append]
    unfold insD
    rw [if_neg (by have := h1 x (by simp); omega), insD_split f i (fun y hy => h1 y (by simp [hy])) h2]
theorem upI_split (i : Int) : ∀ {a b : List Int}, (∀ x ∈ a, x ≤ i) → (∀ x ∈ b, i < x) → upI i (a ++ b) = a ++ i :: b
  | [], [], _, _ => rfl
  | [], y :: b, _, h => by
    rw [List.nil_append, List.nil_append]
    unfold upI
    rw [if_pos (h y (by simp))]
  | x :: a, b, h1, h2 => by
    rw [List.cons_append, List.cons_append]
    unfold upI
    rw [if_neg (by have := h1 x (by simp); omega), upI_split i (fun y hy => h1 y (by simp [hy])) h2]
end Go.Proofs.YtpaojgfmffkodaaGreat
/- Layer 54 (plain): calendars that are closed from now on are the same ahead of now. -/
namespace Go.Proofs.YtpaojgfmffkodaaGreat
set_option linter.unusedVariables false
set_option linter.unusedSimpArgs false
open Go.RowKit Go.Sort
structure CalLe (now : Int) (K K' : CalR) : Prop where
  P : K'.P = K.P
  S : K'.S = K.S
  ok : validB K.P K.S K.D = true → validB K'.P K'.S K'.D = true
  early : ∀ t, t < now → inI K'.D t = inI K.D t
theorem CalLe.refl (now : Int) (K : CalR) : CalLe now K K := ⟨rfl, rfl, id, fun _ _ => rfl⟩
theorem CalLe.trans {now : Int} {a b c : CalR} (h : CalLe now a b) (k : CalLe now b c) : CalLe now a c :=
  ⟨k.P.trans h.P, k.S.trans h.S, fun v => k.ok (h.ok v), fun t ht => (k.early t ht).trans (h.early t ht)⟩
theorem CalLe.open_ {now t : Int} {K K' : CalR} (h : CalLe now K K') (ht : t < now) : openI K'.P K'.S K'.D t = openI K.P K.S K.D t := by
  unfold openI
  rw [h.P, h.S, h.early t ht]
theorem CalLe.opened {now t : Int} {K K' : CalR} (h : CalLe now K K') (ht : t < now) (ho : openV K.P K.S K.D t = true) : openV K'.P K'.S K'.D t = true := by
  unfold openV at ho ⊢
  rw [Bool.and_eq_true, Bool.and_eq_true] at ho ⊢
  exact ⟨⟨h.ok ho.1.1, ho.1.2⟩, (h.open_ ht).trans ho.2⟩
theorem CalLe.worked {now a b : Int} {K K' : CalR} (h : CalLe now K K') (hb : b ≤ now) (hw : (workV K.P K.S K.D a b).2 = 0) : workV K'.P K'.S K'.D a b = workV K.P K.S K.D a b := by
  unfold workV at hw ⊢
  by_cases hv : (validB K.P K.S K.D && checkB a b) = true
  · have hc := hv
    rw [Bool.and_eq_true] at hv
    rw [if_pos hc, if_pos (by rw [h.ok hv.1, hv.2]; rfl)]
    have hcb := hv.2
    unfold checkB at hcb
    simp only [Bool.and_eq_true, decide_eq_true_eq] at hcb
    rw [cnt_congr (f := openI K'.P K'.S K'.D) (g := openI K.P K.S K.D) (fun i hi => h.open_ (by omega))]
  · rw [if_neg hv] at hw
    exfalso
    unfold errI at hw
    cases h1 : validB K.P K.S K.D <;> cases h2 : checkB a b <;> simp [h1, h2] at hv hw
theorem CalLe.finished {now t k e : Int} {K K' : CalR} (h : CalLe now K K') (he : e ≤ now) (hf : finishV K.P K.S K.D t k = (e, 0)) : finishV K'.P K'.S K'.D t k = (e, 0) := by
  unfold finishV at hf ⊢
  by_cases hv : (validB K.P K.S K.D && (timeB t && timeB k)) = true
  · rw [if_pos hv] at hf
    rw [Bool.and_eq_true] at hv
    rw [if_pos (by rw [h.ok hv.1, hv.2]; rfl)]
    unfold foundV at hf
    obtain ⟨s1, s2, s3⟩ := least_spec (fun i => decide (k ≤ cnt (openI K.P K.S K.D) t i)) (1000001 - t).toNat
    split at hf
    · rename_i hlt
      have he2 : t + least (fun i => decide (k ≤ cnt (openI K.P K.S K.D) t i)) (1000001 - t).toNat = e := by
        have := congrArg Prod.fst hf
        exact this
      have s4 := s3 hlt
      generalize least (fun i => decide (k ≤ cnt (openI K.P K.S K.D) t i)) (1000001 - t).toNat = m at *
      have hc : ∀ i, i ≤ m → cnt (openI K'.P K'.S K'.D) t i = cnt (openI K.P K.S K.D) t i := fun i hi => cnt_congr (fun j hj => h.open_ (by omega))
      have hm : (e - t).toNat = m := by omega
      refine found_at (by omega) (by omega) (fun i hi => ?_) ?_
      · show decide (k ≤ cnt (openI K'.P K'.S K'.D) t i) = false
        rw [hc i (by omega)]
        exact s2 i (by omega)
      · rw [hm]
        show decide (k ≤ cnt (openI K'.P K'.S K'.D) t m) = true
        rw [hc m (Nat.le_refl _)]
        exact s4
    · cases hf
  · rw [if_neg hv] at hf
    exfalso
    have := congrArg Prod.snd hf
    simp only at this
    unfold errI at this
    cases h1 : validB K.P K.S K.D <;> cases h2 : (timeB t && timeB k) <;> simp [h1, h2] at hv this
theorem closeV_le {now a b : Int} {K : CalR} {M : List (Int × Int)} (h : closeV K.P K.S K.D a b = some M) (ha : now ≤ a) (A B : Option Addr) (c d : Nat) : CalLe now K ⟨K.P, A, c, K.S, B, d, M⟩ := by
  unfold closeV at h
  split at h
  · rename_i hv
    injection h with h
    subst h
    obtain ⟨h1, h2⟩ := hv
    rw [Bool.and_eq_true] at h1
    have g := validB_iff.1 h1.1
    obtain ⟨k1, k2⟩ := closeL_ok g.d h1.2
    refine ⟨rfl, rfl, fun _ => validB_iff.2 ⟨g.p1, g.p2, g.s, k1, g.s20, h2⟩, fun t ht => ?_⟩
    show inI (closeL K.D a b) t = inI K.D t
    rw [k2, show decide (a ≤ t ∧ t < b) = false from by simp; omega, Bool.or_false]
  · cases h
structure RunInv (now : Int) (x0 x : StP) : Prop where
  bg : x.bg = x0.bg
  pd : x.pd = x0.pd
  dr : x.dr.length = x.L.length
  drb : ∀ j : Nat, begunJ x.bg j = true → x.dr.getD j false = false
  le : x0.L.length ≤ x.L.length
  same : ∀ j : Nat, j < x0.L.length → jobAt x.L j = jobAt x0.L j
  check : checkS x.s x.L = true
  n : x.s.cals.length = x0.s.cals.length
  rows : x.s.rows = x0.s.rows
  most : x.s.most = x0.s.most
  cal : ∀ m : Nat, CalLe now (calAt x0.s m) (calAt x.s m)
theorem setCal_at (s : ShopR) (m : Int) (K : CalR) (h0 : 0 ≤ m) (h1 : m < s.cals.length) (i : Nat) : calAt (setCal s m K) i = if (i : Int) = m then K else calAt s i := by
  unfold calAt setCal
  simp only [Int.toNat_natCast]
  rw [List.getD_eq_getElem?_getD, List.getElem?_set]
  by_cases e : (i : Int) = m
  · rw [if_pos e, if_pos (by omega), if_pos (by omega)]
    rfl
  · rw [if_neg e, if_neg (by omega), List.getD_eq_getElem?_getD]
theorem checkS_parts {s : ShopR} {L : List JobR} : checkS s L = true ↔ shopB s = true ∧ L.length ≤ 40 ∧ ∀ j ∈ L, jobB s j = true := by
  unfold checkS
  rw [Bool.and_eq_true, Bool.and_eq_true, decide_eq_true_eq, Bool.not_eq_true', List.any_eq_false]
  constructor
  · rintro ⟨h1, h2, h3⟩
    exact ⟨h1, by omega, fun j hj => by have := h3 j hj; simpa using this⟩
  · rintro ⟨h1, h2, h3⟩
    exact ⟨h1, by omega, fun j hj => by simp [h3 j hj]⟩
theorem shop_cals {s : ShopR} (h : shopB s = true) : ∀ K ∈ s.cals, validB K.P K.S K.D = true := by
  unfold shopB headB at h
  simp only [Bool.and_eq_true, Bool.not_eq_true', List.any_eq_false] at h
  intro K hK
  have := h.1.2.1 K hK
  unfold wrongC at this
  simpa using this
theorem shopB_set {s : ShopR} {m : Int} {K : CalR} (h : shopB s = true) (hK : validB K.P K.S K.D = true) : shopB (setCal s m K) = true := by
  have hl : (setCal s m K).cals.length = s.cals.length := by unfold setCal; simp
  have hc := shop_cals h
  unfold shopB headB at h ⊢
  rw [hl]
  simp only [Bool.and_eq_true, Bool.not_eq_true', List.any_eq_false] at h ⊢
  refine ⟨⟨h.1.1, fun y hy => ?_, h.1.2.2⟩, h.2⟩
  have hy2 : y ∈ s.cals.set m.toNat K := hy
  rcases List.mem_or_eq_of_mem_set hy2 with h3 | rfl
  · exact h.1.2.1 y h3
  · unfold wrongC; simp [hK]
theorem jobB_set (s : ShopR) (m : Int) (K : CalR) (j : JobR) : jobB (setCal s m K) j = jobB s j := by
  unfold jobB
  rw [show (setCal s m K).cals.length = s.cals.length from by unfold setCal; simp]
  rfl
theorem jobAt_append {L : List JobR} {j : JobR} {i : Nat} (h : i < L.length) : jobAt (L ++ [j]) i = jobAt L i := by
  unfold jobAt
  rw [Int.toNat_natCast, List.getD_eq_getElem?_getD, List.getD_eq_getElem?_getD, List.getElem?_append_left h]
theorem step_inv {now : Int} {x0 x : StP} (h : RunInv now x0 x) (hbg : ∀ y ∈ x0.bg, 0 ≤ y.job ∧ y.job < x0.L.length) (v : EvR) (h0 : (stepV x now v).1 = 0) : RunInv now x0 (stepV x now v).2 := by
  unfold stepV at h0 ⊢
  by_cases k1 : v.kind = 1
  · rw [if_pos k1] at h0 ⊢
    unfold shutV at h0 ⊢
    by_cases e1 : v.job = 0
    · rw [if_pos e1] at h0 ⊢
      by_cases e2 : v.mach < 0 ∨ (x.s.cals.length : Int) ≤ v.mach
      · rw [if_pos e2] at h0; cases h0
      · rw [if_neg e2] at h0 ⊢
        by_cases e3 : v.frm < now ∨ v.till < v.frm ∨ 1000000 < v.till
        · rw [if_pos e3] at h0; cases h0
        · rw [if_neg e3] at h0 ⊢
          cases hc : closeV (calAt x.s v.mach).P (calAt x.s v.mach).S (calAt x.s v.mach).D v.frm v.till with
          | none => rw [hc] at h0; cases h0
          | some M =>
            have hm0 : 0 ≤ v.mach := by omega
            have hm1 : v.mach < x.s.cals.length := by omega
            have hle := closeV_le hc (show now ≤ v.frm by omega) none none 0 0
            obtain ⟨c1, c2, c3⟩ := checkS_parts.1 h.check
            obtain ⟨q, hq⟩ : ∃ q : Nat, v.mach = q := ⟨v.mach.toNat, by omega⟩
            have hcal : calAt x.s v.mach ∈ x.s.cals := by
              rw [hq, calAt_at (show q < x.s.cals.length by omega)]
              exact List.getElem_mem _
            have hv := hle.ok (shop_cals c1 _ hcal)
            refine ⟨h.bg, h.pd, h.dr, h.drb, h.le, h.same, checkS_parts.2 ⟨shopB_set c1 hv, c2, fun j hj => by show jobB (setCal x.s v.mach _) j = true; rw [jobB_set]; exact c3 j hj⟩, ?_, h.rows, h.most, fun m => ?_⟩
            · show (setCal x.s v.mach _).cals.length = _
              rw [← h.n]
              unfold setCal
              simp
            · show CalLe now (calAt x0.s m) (calAt (setCal x.s v.mach _) m)
              rw [setCal_at _ _ _ hm0 hm1]
              split
              · rename_i e
                rw [← e] at hle
                have := (h.cal m).trans hle
                rw [e] at this ⊢
                exact this
              · exact h.cal m
    · rw [if_neg e1] at h0; cases h0
  · rw [if_neg k1] at h0 ⊢
    by_cases k2 : v.kind ≠ 2 ∧ v.kind ≠ 3
    · rw [if_pos k2] at h0; cases h0
    · rw [if_neg k2] at h0 ⊢
      by_cases k3 : aboutE x v ≠ 0
      · rw [if_pos k3] at h0; exact absurd h0 k3
      · rw [if_neg k3] at h0 ⊢
        have hj : 0 ≤ v.job ∧ v.job < x.L.length := by
          have k4 : aboutE x v = 0 := by simpa using k3
          unfold aboutE at k4
          split at k4
          · cases k4
          · split at k4
            · cases k4
            · omega
        obtain ⟨c1, c2, c3⟩ := checkS_parts.1 h.check
        by_cases k5 : v.kind = 3
        · rw [if_pos k5] at h0 ⊢
          unfold dropV at h0 ⊢
          split at h0
          · cases h0
          · rename_i hb
            rw [if_neg hb]
            rw [Bool.not_eq_true, Bool.or_eq_false_iff] at hb
            refine ⟨h.bg, h.pd, by show (x.dr.set _ _).length = _; rw [List.length_set]; exact h.dr, fun j hbj => ?_, h.le, h.same, h.check, h.n, h.rows, h.most, h.cal⟩
            show (x.dr.set v.job.toNat true).getD j false = false
            rw [List.getD_eq_getElem?_getD, List.getElem?_set]
            by_cases e : v.job.toNat = j
            · exfalso
              have : v.job = (j : Int) := by omega
              rw [this] at hb
              rw [hb.1] at hbj
              cases hbj
            · rw [if_neg e, ← List.getD_eq_getElem?_getD]
              exact h.drb j hbj
        · rw [if_neg k5] at h0 ⊢
          unfold againV at h0 ⊢
          by_cases k6 : begunJ x.bg v.job = false
          · rw [if_pos k6] at h0; cases h0
          · rw [if_neg k6] at h0 ⊢
            by_cases k7 : 40 ≤ x.L.length
            · rw [if_pos k7] at h0; cases h0
            · rw [if_neg k7]
              refine ⟨h.bg, h.pd, by show (x.dr ++ [false]).length = (x.L ++ [_]).length; rw [List.length_append, List.length_append, h.dr]; rfl, fun j hbj => ?_, by show _ ≤ (x.L ++ [_]).length; rw [List.length_append]; exact Nat.le_trans h.le (Nat.le_add_right _ _), fun j hjl => ?_, checkS_parts.2 ⟨c1, by show (x.L ++ [_]).length ≤ 40; rw [List.length_append]; simp; omega, fun j hjm => ?_⟩, h.n, h.rows, h.most, h.cal⟩
              · show (x.dr ++ [false]).getD j false = false
                rw [List.getD_eq_getElem?_getD]
                by_cases hjd : j < x.dr.length
                · rw [List.getElem?_append_left hjd, ← List.getD_eq_getElem?_getD]
                  exact h.drb j hbj
                · by_cases hje : j = x.dr.length
                  · rw [hje]; simp
                  · rw [List.getElem?_eq_none (by simp; omega)]; rfl
              · show jobAt (x.L ++ [_]) j = _
                rw [jobAt_append (Nat.lt_of_lt_of_le hjl h.le)]
                exact h.same j hjl
              · rcases List.mem_append.1 hjm with hjm | hjm
                · exact c3 j hjm
                · rw [List.mem_singleton] at hjm
                  subst hjm
                  exact c3 _ (jobAt_mem hj.1 hj.2)
theorem run_inv {now : Int} {x0 : StP} (hbg : ∀ y ∈ x0.bg, 0 ≤ y.job ∧ y.job < x0.L.length) : ∀ (evs : List EvR) (x : StP), RunInv now x0 x → (runV now x evs).1 = 0 → RunInv now x0 (runV now x evs).2
  | [], x, h, _ => h
  | v :: r, x, h, h0 => by
    unfold runV at h0 ⊢
    by_cases e : (stepV x now v).1 = 0
    · rw [if_pos e] at h0 ⊢
      exact run_inv hbg r _ (step_inv h hbg v e) h0
    · rw [if_neg e] at h0
      exact absurd h0 e
end Go.Proofs.YtpaojgfmffkodaaGreat
/- Layer 54 (plain): what has begun is valid behind events. -/
namespace Go.Proofs.YtpaojgfmffkodaaGreat
set_option linter.unusedVariables false
set_option linter.unusedSimpArgs false
open Go.RowKit Go.Sort
theorem slot_parts {s : ShopR} {L : List JobR} {x : SlotR} : slotE s L [] x = 0 ↔ nameB s L x = true ∧ (jobAt L x.job).ms.any (fun m => x.mach == m) = true ∧ ¬ x.start < (jobAt L x.job).rel ∧ shiftB s L x = true := by
  unfold slotE
  simp only [List.any_nil]
  cases nameB s L x <;> cases (jobAt L x.job).ms.any (fun m => x.mach == m) <;> by_cases h : x.start < (jobAt L x.job).rel <;> cases shiftB s L x <;> simp [h]
def endOf (s : ShopR) (L : List JobR) (y : SlotR) : SlotR := ⟨y.job, y.mach, y.start, (finishAt s y.mach y.start (jobAt L y.job).dur).1⟩
theorem ends_map {s : ShopR} {L : List JobR} : ∀ {l b : List SlotR}, endsV s L l = some b → b = l.map (endOf s L) ∧ ∀ y ∈ l, (finishAt s y.mach y.start (jobAt L y.job).dur).2 = 0
  | [], b, h => by
    unfold endsV at h
    injection h with h
    subst h
    exact ⟨rfl, fun y hy => by cases hy⟩
  | x :: r, b, h => by
    unfold endsV at h
    split at h
    · rename_i h0
      cases e : endsV s L r with
      | none => rw [e] at h; cases h
      | some t =>
        rw [e] at h
        injection h with h
        obtain ⟨h1, h2⟩ := ends_map e
        subst h
        refine ⟨by rw [h1]; rfl, fun y hy => ?_⟩
        rcases List.mem_cons.1 hy with rfl | hy
        · exact h0
        · exact h2 y hy
    · cases h
theorem later_at (bg : List SlotR) (now : Int) {L : List JobR} {j : Nat} (h : j < L.length) : jobAt (L.mapIdx (laterJ bg now)) j = laterJ bg now j (jobAt L j) := by
  rw [jobAt_at (by simpa using h), jobAt_at h, List.getElem_mapIdx]
theorem later_begun {bg : List SlotR} {now : Int} {L : List JobR} {j : Nat} (h : j < L.length) (hb : begunJ bg j = true) : jobAt (L.mapIdx (laterJ bg now)) j = jobAt L j := by
  rw [later_at bg now h]
  unfold laterJ
  rw [if_pos hb]
theorem check_laterJ {s : ShopR} {L : List JobR} (bg : List SlotR) {now : Int} (h0 : 0 ≤ now) (h1 : now ≤ 1000000) (h : checkS s L = true) : checkS s (L.mapIdx (laterJ bg now)) = true := by
  obtain ⟨c1, c2, c3⟩ := checkS_parts.1 h
  refine checkS_parts.2 ⟨c1, by simpa using c2, fun j hj => ?_⟩
  obtain ⟨i, hi, rfl⟩ := List.mem_iff_getElem.1 hj
  have hi' : i < L.length := by simpa using hi
  rw [List.getElem_mapIdx]
  have := c3 _ (List.getElem_mem hi')
  unfold laterJ
  split
  · exact this
  · unfold jobB restB at this ⊢
    simp only [Bool.and_eq_true, decide_eq_true_eq] at this ⊢
    obtain ⟨a1, a2, a3, a4, ⟨a5, a6⟩, a7⟩ := this
    refine ⟨a1, a2, a3, a4, ⟨?_, ?_⟩, a7⟩ <;> (unfold imax; split <;> omega)
theorem begunJ_mem {bg : List SlotR} {y : SlotR} (h : y ∈ bg) : begunJ bg y.job = true := by
  unfold begunJ
  rw [List.any_eq_true]
  exact ⟨y, h, by simp⟩
section
variable {now : Int} {x0 x : StP} {plan : List SlotR}
theorem begun_slot (inv : RunInv now x0 x) (hg : GoodS x0.s x0.L plan) (hbg : x0.bg = plan.filter (fun y => decide (y.start < now))) {y : SlotR} (hy : y ∈ x0.bg) :
    y ∈ plan ∧ y.start < now ∧ (∃ j : Nat, y.job = j ∧ j < x0.L.length ∧ jobAt (x.L.mapIdx (laterJ x.bg now)) j = jobAt x0.L j) ∧ (∃ m : Nat, y.mach = m ∧ m < x0.s.cals.length) ∧ finishAt x0.s y.mach y.start (jobAt x0.L y.job).dur = (y.stop, 0) ∧ openAt x0.s y.mach y.start = true := by
  rw [hbg, List.mem_filter, decide_eq_true_eq] at hy
  obtain ⟨p1, p2, p3, p4⟩ := slot_parts.1 (hg.1 y hy.1)
  have hn := nameB_iff.1 p1
  obtain ⟨j, hj⟩ : ∃ j : Nat, y.job = j := ⟨y.job.toNat, by omega⟩
  obtain ⟨m, hm⟩ : ∃ m : Nat, y.mach = m := ⟨y.mach.toNat, by omega⟩
  unfold shiftB at p4
  simp only [Bool.and_eq_true, beq_iff_eq] at p4
  refine ⟨hy.1, hy.2, ⟨j, hj, by omega, ?_⟩, ⟨m, hm, by omega⟩, Prod.ext p4.2.2 p4.2.1, p4.1⟩
  have hb : begunJ x.bg (j : Int) = true := by
    rw [← hj, inv.bg, hbg]
    exact begunJ_mem (List.mem_filter.2 ⟨hy.1, by simpa using hy.2⟩)
  rw [later_begun (Nat.lt_of_lt_of_le (by omega) inv.le) hb, inv.same j (by omega)]
theorem end_early (inv : RunInv now x0 x) (hg : GoodS x0.s x0.L plan) (hbg : x0.bg = plan.filter (fun y => decide (y.start < now))) {y : SlotR} (hy : y ∈ x0.bg) (he : y.stop ≤ now) :
    (endOf x.s (x.L.mapIdx (laterJ x.bg now)) y).stop = y.stop := by
  obtain ⟨h1, h2, ⟨j, hj, hjl, hjo⟩, ⟨m, hm, hml⟩, h5, h6⟩ := begun_slot inv hg hbg hy
  show (finishAt x.s y.mach y.start (jobAt _ y.job).dur).1 = y.stop
  rw [hj, hjo, hm]
  rw [hj, hm] at h5
  unfold finishAt at h5 ⊢
  rw [(inv.cal m).finished he h5]
theorem ends_good (inv : RunInv now x0 x) (hg : GoodS x0.s x0.L plan) (hbg : x0.bg = plan.filter (fun y => decide (y.start < now))) {b : List SlotR} (he : endsV x.s (x.L.mapIdx (laterJ x.bg now)) x.bg = some b) :
    GoodS x.s (x.L.mapIdx (laterJ x.bg now)) b := by
  obtain ⟨rfl, h0⟩ := ends_map he
  rw [inv.bg] at h0 ⊢
  have EE := fun {y : SlotR} (hy : y ∈ x0.bg) => end_early inv hg hbg hy
  have BS := fun {y : SlotR} (hy : y ∈ x0.bg) => begun_slot inv hg hbg hy
  rw [inv.bg] at EE BS
  have hLl : x0.L.length ≤ (x.L.mapIdx (laterJ x0.bg now)).length := by simpa using inv.le
  generalize x.L.mapIdx (laterJ x0.bg now) = L' at *
  have hord : ∀ y ∈ x0.bg, ordAt L' (endOf x.s L' y) = ordAt x0.L y := fun y hy => by
    obtain ⟨h1, h2, ⟨j, hj, hjl, hjo⟩, ⟨m, hm, hml⟩, h5, h6⟩ := BS hy
    show (jobAt L' y.job).ord = (jobAt x0.L y.job).ord
    rw [hj, hjo]
  refine ⟨fun z hz => ?_, ?_, fun z hz => ?_⟩
  · obtain ⟨y, hy, rfl⟩ := List.mem_map.1 hz
    obtain ⟨h1, h2, ⟨j, hj, hjl, hjo⟩, ⟨m, hm, hml⟩, h5, h6⟩ := BS hy
    obtain ⟨p1, p2, p3, p4⟩ := slot_parts.1 (hg.1 y h1)
    have hf := h0 y hy
    refine slot_parts.2 ⟨nameB_iff.2 ?_, ?_, ?_, ?_⟩
    · show (0 ≤ y.job ∧ y.job < L'.length) ∧ 0 ≤ y.mach ∧ y.mach < x.s.cals.length
      rw [inv.n]
      omega
    · show (jobAt L' y.job).ms.any _ = true
      rw [hj, hjo, ← hj]
      exact p2
    · show ¬ y.start < (jobAt L' y.job).rel
      rw [hj, hjo, ← hj]
      exact p3
    · unfold shiftB
      show (openAt x.s y.mach y.start && ((finishAt x.s y.mach y.start (jobAt L' y.job).dur).2 == 0 && (finishAt x.s y.mach y.start (jobAt L' y.job).dur).1 == (finishAt x.s y.mach y.start (jobAt L' y.job).dur).1)) = true
      rw [hf]
      have : openAt x.s y.mach y.start = true := by
        rw [hm] at h6 ⊢
        unfold openAt at h6 ⊢
        exact (inv.cal m).opened h2 h6
      rw [this]
      simp
  · rw [List.pairwise_map]
    have hp : x0.bg.Pairwise (fun a b => sepB x0.s x0.L b a = true) := by rw [hbg]; exact hg.2.1.filter _
    refine hp.imp_of_mem fun {a c} ha hc hs => ?_
    have FO : ∀ a c, a ∈ x0.bg → c ∈ x0.bg → followsB x0.s x0.L a c = true → followsB x.s L' (endOf x.s L' a) (endOf x.s L' c) = true := by
      intro a c ha hc hf
      obtain ⟨h1, h2, ⟨j, hj, hjl, hjo⟩, ⟨m, hm, hml⟩, h5, h6⟩ := BS ha
      obtain ⟨k1, k2, ⟨i, hi, hil, hio⟩, -, -, -⟩ := BS hc
      unfold followsB at hf ⊢
      simp only [Bool.and_eq_true, Bool.not_eq_true', decide_eq_false_iff_not, beq_iff_eq, decide_eq_true_eq] at hf ⊢
      obtain ⟨f1, f2, f3⟩ := hf
      have e := EE ha (show a.stop ≤ now by omega)
      rw [e]
      have ew : workAt x.s (endOf x.s L' a).mach a.stop (endOf x.s L' c).start = workAt x0.s a.mach a.stop c.start := by
        show workAt x.s a.mach a.stop c.start = _
        rw [hm] at f2 ⊢
        unfold workAt at f2 ⊢
        exact (inv.cal m).worked (by omega) f2
      have es : setupAt x.s L' (endOf x.s L' a).job (endOf x.s L' c).job = setupAt x0.s x0.L a.job c.job := by
        show setupAt x.s L' a.job c.job = _
        unfold setupAt
        rw [hj, hi, hjo, hio, inv.rows]
      rw [ew, es]
      exact ⟨f1, f2, f3⟩
    unfold sepB clashB at hs ⊢
    have hjs : ((endOf x.s L' a).job == (endOf x.s L' c).job) = (a.job == c.job) := rfl
    have hms : ((endOf x.s L' a).mach == (endOf x.s L' c).mach) = (a.mach == c.mach) := rfl
    rw [hjs, hms]
    simp only [Bool.and_eq_true, Bool.not_eq_true', Bool.and_eq_false_iff, Bool.not_eq_false'] at hs ⊢
    refine ⟨hs.1, ?_⟩
    rcases hs.2 with h | h | h
    · exact .inl h
    · exact .inr (.inl (FO _ _ ha hc h))
    · exact .inr (.inr (FO _ _ hc ha h))
  · obtain ⟨y, hy, rfl⟩ := List.mem_map.1 hz
    obtain ⟨h1, h2, -, -, -, -⟩ := BS hy
    show openN L' y.start _ ≤ x.s.most
    rw [inv.most]
    refine Int.le_trans ?_ (hg.2.2 y h1)
    unfold openN openTo
    have : (List.range 1001).countP (fun o => begunB L' y.start (x0.bg.map (endOf x.s L')) o && unfinB L' y.start (x0.bg.map (endOf x.s L')) o) ≤ (List.range 1001).countP (fun o => begunB x0.L y.start plan o && unfinB x0.L y.start plan o) := by
      refine List.countP_mono_left fun o ho hc => ?_
      unfold begunB unfinB at hc ⊢
      rw [Bool.and_eq_true, List.any_eq_true, List.any_eq_true] at hc ⊢
      obtain ⟨⟨u, hu, hu2⟩, v, hv, hv2⟩ := hc
      obtain ⟨u', hu', rfl⟩ := List.mem_map.1 hu
      obtain ⟨v', hv', rfl⟩ := List.mem_map.1 hv
      rw [Bool.and_eq_true, decide_eq_true_eq, hord _ hu'] at hu2
      rw [Bool.and_eq_true, decide_eq_true_eq, hord _ hv'] at hv2
      refine ⟨⟨u', (BS hu').1, by rw [Bool.and_eq_true, decide_eq_true_eq]; exact hu2⟩, ⟨v', (BS hv').1, ?_⟩⟩
      rw [Bool.and_eq_true, decide_eq_true_eq]
      refine ⟨hv2.1, ?_⟩
      rcases Int.lt_or_le y.start v'.stop with h | h
      · exact h
      · have := EE hv' (by omega)
        rw [this] at hv2
        omega
    omega
end
end Go.Proofs.YtpaojgfmffkodaaGreat
/- Layer 54 (plain): what Apply leaves. -/
namespace Go.Proofs.YtpaojgfmffkodaaGreat
set_option linter.unusedVariables false
set_option linter.unusedSimpArgs false
open Go.RowKit Go.Sort
theorem goodS_er {s : ShopR} {L : List JobR} {l : List SlotR} : GoodS (erS s) (erL L) l ↔ GoodS s L l := by
  rw [← validV_good, ← validV_good, validV_er]
theorem start_inv (s : ShopR) (L : List JobR) (plan : List SlotR) (now : Int) (hc : checkS s L = true) : RunInv now (startV s L plan now) (startV s L plan now) := by
  refine ⟨rfl, rfl, ?_, fun j _ => ?_, Nat.le_refl _, fun j _ => rfl, ?_, rfl, rfl, rfl, fun m => CalLe.refl _ _⟩
  · show (L.map fun _ => false).length = (erL L).length
    rw [erL_length]
    simp
  · show (L.map fun _ => false).getD j false = false
    rw [List.getD_eq_getElem?_getD, List.getElem?_map]
    cases L[j]? <;> rfl
  · show checkS (erS s) (erL L) = true
    rw [checkS_er]
    exact hc
structure Applied (s : ShopR) (L : List JobR) (plan : List SlotR) (now : Int) (evs : List EvR) (x1 : StP) (b : List SlotR) (x : StP) : Prop where
  check : checkS s L = true
  good : GoodS s L plan
  n0 : 0 ≤ now
  n1 : now ≤ 1000000
  inv : RunInv now (startV s L plan now) x1
  run : x1 = (runV now (startV s L plan now) evs).2
  ends : endsV x1.s (x1.L.mapIdx (laterJ x1.bg now)) x1.bg = some b
  x : x = ⟨x1.s, x1.L.mapIdx (laterJ x1.bg now), b, sortS (x1.pd.filter fun y => !x1.dr.getD y.job.toNat false), x1.dr⟩
theorem apply_ok {s : ShopR} {L : List JobR} {plan : List SlotR} {now : Int} {evs : List EvR} (h : (applyV s L plan now evs).1 = 0) : ∃ x1 b, Applied s L plan now evs x1 b (applyV s L plan now evs).2 := by
  unfold applyV at h ⊢
  by_cases h1 : (validT s L plan).2 = 0
  · rw [if_pos h1] at h ⊢
    by_cases h2 : now < 0 ∨ 1000000 < now
    · rw [if_pos h2] at h; cases h
    · rw [if_neg h2] at h ⊢
      by_cases h3 : 20 < evs.length
      · rw [if_pos h3] at h; cases h
      · rw [if_neg h3] at h ⊢
        by_cases h4 : (runV now (startV s L plan now) evs).1 = 0
        · rw [if_pos h4] at h ⊢
          obtain ⟨hc, hg⟩ := validT_zero.1 h1
          have hbg : ∀ y ∈ (startV s L plan now).bg, 0 ≤ y.job ∧ y.job < (startV s L plan now).L.length := by
            intro y hy
            have hy1 : y ∈ plan := (List.mem_filter.1 hy).1
            have := (good_stop hg y hy1).1
            show 0 ≤ y.job ∧ y.job < (erL L).length
            rw [erL_length]
            exact this
          have inv := run_inv hbg evs _ (start_inv s L plan now hc) h4
          unfold lastV at h ⊢
          cases he : endsV (runV now (startV s L plan now) evs).2.s ((runV now (startV s L plan now) evs).2.L.mapIdx (laterJ (runV now (startV s L plan now) evs).2.bg now)) (runV now (startV s L plan now) evs).2.bg with
          | none => rw [he] at h; cases h
          | some b => exact ⟨_, b, hc, hg, by omega, by omega, inv, rfl, he, rfl⟩
        · rw [if_neg h4] at h
          exact absurd h h4
  · rw [if_neg h1] at h
    exact absurd h h1
structure StOk (now : Int) (x : StP) : Prop where
  check : checkS x.s x.L = true
  good : GoodS x.s x.L x.bg
  dr : x.dr.length = x.L.length
  jobs : ((x.bg ++ x.pd).map (·.job)).Nodup
  named : ∀ y ∈ x.bg ++ x.pd, 0 ≤ y.job ∧ y.job < x.L.length
  keep : ∀ y ∈ x.bg ++ x.pd, x.dr.getD y.job.toNat false = false
  bg : ∀ y ∈ x.bg, y.start < now
  pd : ∀ y ∈ x.pd, now ≤ y.start
  rel : ∀ j : Nat, j < x.L.length → begunJ x.bg j = true ∨ now ≤ (jobAt x.L j).rel
theorem good_jobs {s : ShopR} {L : List JobR} {l : List SlotR} (h : GoodS s L l) : (l.map (·.job)).Nodup := by
  have := h.2.1
  unfold List.Nodup
  rw [List.pairwise_map]
  refine this.imp fun {a b} hs => ?_
  unfold sepB at hs
  rw [Bool.and_eq_true, Bool.not_eq_true', beq_eq_false_iff_ne] at hs
  exact fun e => hs.1 e
theorem filter_split {α : Type} (p : α → Bool) (l : List α) : (l.filter p ++ l.filter fun x => !p x).Perm l := List.filter_append_perm p l
theorem applied_ok {s : ShopR} {L : List JobR} {plan : List SlotR} {now : Int} {evs : List EvR} {x1 x : StP} {b : List SlotR} (h : Applied s L plan now evs x1 b x) : StOk now x := by
  have hge : GoodS (startV s L plan now).s (startV s L plan now).L plan := goodS_er.2 h.good
  have eg := ends_good h.inv hge rfl h.ends
  have inv := h.inv
  have hpl := good_stop h.good
  have hL0 : (startV s L plan now).L.length = L.length := erL_length L
  have hbgd : x1.bg = plan.filter (fun y => decide (y.start < now)) := inv.bg
  have hpdd : x1.pd = plan.filter (fun y => !decide (y.start < now)) := inv.pd
  obtain ⟨hb, -⟩ := ends_map h.ends
  have hbj : b.map (·.job) = x1.bg.map (·.job) := by rw [hb, List.map_map]; rfl
  have hle := inv.le
  rw [hL0] at hle
  have hpj := good_jobs h.good
  have hsp := (sortS_perm (x1.pd.filter fun y => !x1.dr.getD y.job.toNat false))
  have hmem : ∀ y ∈ sortS (x1.pd.filter fun y => !x1.dr.getD y.job.toNat false), y ∈ plan ∧ now ≤ y.start ∧ x1.dr.getD y.job.toNat false = false := by
    intro y hy
    have h1 := hsp.mem_iff.1 hy
    rw [List.mem_filter, hpdd, List.mem_filter] at h1
    obtain ⟨⟨h2, h3⟩, h4⟩ := h1
    refine ⟨h2, ?_, by simpa using h4⟩
    simp at h3
    exact h3
  have hbmem : ∀ y ∈ b, ∃ z ∈ plan, z.start < now ∧ y.job = z.job ∧ y.start = z.start ∧ z ∈ x1.bg := by
    intro y hy
    rw [hb] at hy
    obtain ⟨z, hz, rfl⟩ := List.mem_map.1 hy
    have hz2 := hz
    rw [hbgd, List.mem_filter, decide_eq_true_eq] at hz
    exact ⟨z, hz.1, hz.2, rfl, rfl, hz2⟩
  rw [h.x]
  refine ⟨check_laterJ _ h.n0 h.n1 inv.check, eg, by simpa using inv.dr, ?_, fun y hy => ?_, fun y hy => ?_, fun y hy => ?_, fun y hy => (hmem y hy).2.1, fun j hj => ?_⟩
  · show ((b ++ sortS _).map (·.job)).Nodup
    rw [List.map_append, hbj, ← List.map_append]
    have h1 : (x1.bg ++ x1.pd).Perm plan := by rw [hbgd, hpdd]; exact filter_split _ _
    have h2 : ((x1.bg ++ x1.pd).map (·.job)).Nodup := (h1.map _).nodup_iff.2 hpj
    have h3 : ((x1.bg ++ x1.pd.filter fun y => !x1.dr.getD y.job.toNat false).map (·.job)).Nodup := by
      refine List.Nodup.sublist ?_ h2
      exact ((List.Sublist.refl x1.bg).append List.filter_sublist).map _
    exact ((hsp.append_left x1.bg).map _).nodup_iff.2 h3
  · show 0 ≤ y.job ∧ y.job < (x1.L.mapIdx _).length
    rw [List.length_mapIdx]
    rcases List.mem_append.1 hy with hy | hy
    · obtain ⟨z, hz, -, e, -⟩ := hbmem y hy
      have := (hpl z hz).1
      omega
    · have := (hpl y (hmem y hy).1).1
      omega
  · show x1.dr.getD y.job.toNat false = false
    rcases List.mem_append.1 hy with hy | hy
    · obtain ⟨z, hz, -, e, -, hz2⟩ := hbmem y hy
      refine inv.drb _ ?_
      have h0 := (hpl z hz).1
      rw [show ((y.job.toNat : Nat) : Int) = z.job from by omega]
      exact begunJ_mem hz2
    · exact (hmem y hy).2.2
  · obtain ⟨z, hz, h1, -, e, -⟩ := hbmem y hy
    show y.start < now
    omega
  · show begunJ b j = true ∨ now ≤ (jobAt (x1.L.mapIdx _) j).rel
    have hj' : j < x1.L.length := by
      have hj2 : j < (x1.L.mapIdx (laterJ x1.bg now)).length := hj
      simpa using hj2
    have e1 : begunJ b j = begunJ x1.bg j := by
      rw [hb]
      unfold begunJ
      rw [List.any_map]
      rfl
    rw [e1, later_at _ _ hj']
    cases hbj2 : begunJ x1.bg j
    · right
      unfold laterJ
      rw [if_neg (by rw [hbj2]; simp)]
      show now ≤ imax _ now
      unfold imax
      split <;> omega
    · exact .inl rfl
end Go.Proofs.YtpaojgfmffkodaaGreat
/- Layer 54 (plain): what keeping pending slots leaves: a valid schedule, every job that was not dropped once. -/
namespace Go.Proofs.YtpaojgfmffkodaaGreat
set_option linter.unusedVariables false
set_option linter.unusedSimpArgs false
open Go.RowKit Go.Sort
theorem dispAll_ok {s : ShopR} {L : List JobR} (hc : checkS s L = true) : ∀ (r : List Int) (l : List SlotR) (left : List Int), GoodS s L l → (∀ j ∈ r, 0 ≤ j ∧ j < L.length) →
    GoodS s L (dispAll s L l left r).1 ∧ ∃ ext : List SlotR, (dispAll s L l left r).1 = l ++ ext ∧ (ext.map (·.job) ++ (dispAll s L l left r).2).Perm (left ++ r)
  | [], l, left, hg, _ => ⟨hg, [], by simp [dispAll]⟩
  | j :: r, l, left, hg, hr => by
    obtain ⟨h0, h1⟩ := hr j (by simp)
    obtain ⟨q, rfl⟩ : ∃ q : Nat, j = q := ⟨j.toNat, by omega⟩
    have hq : q < L.length := by omega
    have hrel := (job_parts (check_job hc (List.getElem_mem hq))).2.2.2.2.1.1
    rw [← jobAt_at hq] at hrel
    unfold dispAll
    cases hx : dispatchV s L l q with
    | none =>
      obtain ⟨a, ext, b, c⟩ := dispAll_ok hc r l (left ++ [(q : Int)]) hg (fun j hj => hr j (by simp [hj]))
      refine ⟨a, ext, b, c.trans ?_⟩
      rw [List.append_assoc]
      exact List.Perm.refl _
    | some x =>
      obtain ⟨a, ext, b, c⟩ := dispAll_ok hc r (l ++ [x]) left (validV_good.1 (dispatch_valid hrel hx)) (fun j hj => hr j (by simp [hj]))
      have hj : x.job = (q : Int) := (dispatch_named hx).1
      refine ⟨a, x :: ext, by rw [b]; simp, ?_⟩
      rw [List.map_cons, List.cons_append, hj]
      exact (c.cons _).trans List.perm_middle.symm
theorem freeL_mem {x : StP} {l : List SlotR} {n : Nat} {j : Int} : j ∈ freeL x l n ↔ ∃ i : Nat, j = i ∧ i < n ∧ x.dr.getD i false = false ∧ ∀ y ∈ l, y.job ≠ (i : Int) := by
  unfold freeL freeJ
  rw [List.mem_map]
  constructor
  · rintro ⟨i, hi, rfl⟩
    rw [List.mem_filter, List.mem_range, Bool.and_eq_true, Bool.not_eq_true', Bool.not_eq_true', List.any_eq_false] at hi
    exact ⟨i, rfl, hi.1, hi.2.1, fun y hy => by have := hi.2.2 y hy; simpa using this⟩
  · rintro ⟨i, rfl, h1, h2, h3⟩
    refine ⟨i, ?_, rfl⟩
    rw [List.mem_filter, List.mem_range, Bool.and_eq_true, Bool.not_eq_true', Bool.not_eq_true', List.any_eq_false]
    exact ⟨h1, h2, fun y hy => by simpa using h3 y hy⟩
theorem freeL_nodup (x : StP) (l : List SlotR) (n : Nat) : (freeL x l n).Nodup := by
  unfold freeL List.Nodup
  rw [List.pairwise_map]
  exact (List.nodup_range.filter _).imp fun h e => h (by omega)
theorem replan_ok {now : Int} {x : StP} (ok : StOk now x) : (replanV x).1 = 0 := by
  have key : ∀ n, (validT x.s x.L (chosenTo x n).1).2 = 0 := fun n => by
    induction n with
    | zero => exact validT_zero.2 ⟨ok.check, ok.good⟩
    | succ n ih =>
      unfold chosenTo
      split
      · rename_i h; exact h
      · exact ih
  obtain ⟨h1, -, h3⟩ := chosen_kept x x.pd.length (Nat.le_refl _)
  have h4 := key x.pd.length
  rw [h3] at h4
  unfold replanV keepV
  rw [if_pos h1, if_pos h4]
end Go.Proofs.YtpaojgfmffkodaaGreat
