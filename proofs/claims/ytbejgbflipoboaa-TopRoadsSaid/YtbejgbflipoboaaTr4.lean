/- Texts of transport, taken over from the seat of layer 6: T30. -/
import Derived.Deep.LoopGhost
import Derived.Deep.Cut
import Derived.Deep.CutRange
import Derived.Deep.DeepCutAuto
import Derived.Deep.RegionWith
import Derived.Deep.RegionHeld3
import Derived.RegionTactic
import Derived.BigRegion
import Derived.Test.YtbejgbflipoboaaTr3
namespace Go.Proofs.Ytbejgbflipoboaa
open Go.RowKit
theorem OwnG.cellg {W : World} {T : TypeId} {B g n cap : Nat} {l : List Int} (h : OwnG W T B g n cap l) {i : Nat} (hi : i < n) : W.cell? ⟨g, i, none⟩ = some (.int .i64 (gi l i)) := h.cell (by rw [h.len]; exact hi)
end Go.Proofs.Ytbejgbflipoboaa
namespace Go.Proofs.Ytbejgbflipoboaa.Tr
open Go.RowKit
attribute [local go_sem] GW.cell
/- Contracts of ship: one unit more. -/

theorem upon_make {P : Program} {o : Oper} {a : Act} {K : Act → World → Prop} {Q : Exit → Act → World → Prop} {w : World} {t : TypeId} {n : Nat} (base : Nat) (e : TypeId) (i : TypeInfo) (z : Value) (size : Nat) (h1 : P.underlying t = some (.slice e)) (h2 : P.info? e = some i) (h3 : i.zero = some z) (h4 : i.size = size)
    (b2 : i.bytes * n ≤ 281474976710656) (b3 : n ≤ maxLen) (b4 : base ≤ w.heap.size)
    (h : ∀ w', w'.ownsRow base e size (.slice (some ⟨w.heap.size, 0, none⟩) n n) n (madeCells z.cells (n * size)).toList → w.grownBy w' none → K (a.put o.dst (.slice (some ⟨w.heap.size, 0, none⟩) n n)) w') :
    Oper.upon P o a K Q (((Instr.makeSlice t (.int .i64 n) (.int .i64 n)).run P w).andThen fun a w' => Result.ok (Next.value a) w') := by
  obtain ⟨w', hrun, r1, r2⟩ := run_make_full (P := P) w base t e i z size h1 h2 h3 h4 .i64 .i64 n b2 b3 b4
  rw [hrun]
  exact h w' r1 r2
theorem made_own {W : World} {B g n : Nat} (h : W.ownsRow B 3 1 (.slice (some ⟨g, 0, none⟩) n n) n (madeCells (Value.int IntKind.i64 0).cells (n * 1)).toList) : OwnG W 3 B g n n (List.replicate n 0) := by
  rw [show (Value.int IntKind.i64 0).cells = #[.int .i64 0] from rfl, made_one] at h
  unfold OwnG
  rw [List.map_replicate]
  exact h
/-- the labels' four lists, and what is left of rows and columns, in blocks of the call's own -/
structure Lab (w W : World) (n m gR cR gL cL gA gF gC gD : Nat) (lr lc : List Int) (st : NS) : Prop where
  ext : Ext w W
  R : OwnG W 3 w.heap.size gR n cR lr
  L : OwnG W 3 w.heap.size gL m cL lc
  A : OwnG W 3 w.heap.size gA n n st.ra
  F : OwnG W 3 w.heap.size gF n n st.rf
  C : OwnG W 3 w.heap.size gC m m st.ca
  D : OwnG W 3 w.heap.size gD m m st.cf
  nd : (gR ≠ gA ∧ gR ≠ gF ∧ gR ≠ gC ∧ gR ≠ gD) ∧ (gL ≠ gA ∧ gL ≠ gF ∧ gL ≠ gC ∧ gL ≠ gD) ∧ (gA ≠ gF ∧ gA ≠ gC ∧ gA ≠ gD) ∧ (gF ≠ gC ∧ gF ≠ gD) ∧ gC ≠ gD
section
variable {w W W' : World} {n m gR cR gL cL gA gF gC gD : Nat} {lr lc : List Int} {st : NS}
theorem Lab.grow (h : Lab w W n m gR cR gL cL gA gF gC gD lr lc st) (hE : Ext W W') : Lab w W' n m gR cR gL cL gA gF gC gD lr lc st :=
  ⟨h.ext.trans' hE, h.R.ext hE, h.L.ext hE, h.A.ext hE, h.F.ext hE, h.C.ext hE, h.D.ext hE, h.nd⟩
theorem Lab.setA (h : Lab w W n m gR cR gL cL gA gF gC gD lr lc st) (i : Nat) (v : Int) : Lab w (W.setCell ⟨gA, i, none⟩ (.int .i64 v)) n m gR cR gL cL gA gF gC gD lr lc ⟨st.ra.set i v, st.rf, st.ca, st.cf⟩ := by
  obtain ⟨⟨n1, n2, n3, n4⟩, ⟨n5, n6, n7, n8⟩, ⟨n9, n10, n11⟩, ⟨n12, n13⟩, n14⟩ := h.nd
  exact ⟨h.ext.setCell (p := ⟨gA, i, none⟩) h.A.slot.2.2 _, h.R.other n1.symm _ _, h.L.other n5.symm _ _, h.A.store _ _, h.F.other n9 _ _, h.C.other n10 _ _, h.D.other n11 _ _, h.nd⟩
theorem Lab.setF (h : Lab w W n m gR cR gL cL gA gF gC gD lr lc st) (i : Nat) (v : Int) : Lab w (W.setCell ⟨gF, i, none⟩ (.int .i64 v)) n m gR cR gL cL gA gF gC gD lr lc ⟨st.ra, st.rf.set i v, st.ca, st.cf⟩ := by
  obtain ⟨⟨n1, n2, n3, n4⟩, ⟨n5, n6, n7, n8⟩, ⟨n9, n10, n11⟩, ⟨n12, n13⟩, n14⟩ := h.nd
  exact ⟨h.ext.setCell (p := ⟨gF, i, none⟩) h.F.slot.2.2 _, h.R.other n2.symm _ _, h.L.other n6.symm _ _, h.A.other n9.symm _ _, h.F.store _ _, h.C.other n12 _ _, h.D.other n13 _ _, h.nd⟩
theorem Lab.setC (h : Lab w W n m gR cR gL cL gA gF gC gD lr lc st) (i : Nat) (v : Int) : Lab w (W.setCell ⟨gC, i, none⟩ (.int .i64 v)) n m gR cR gL cL gA gF gC gD lr lc ⟨st.ra, st.rf, st.ca.set i v, st.cf⟩ := by
  obtain ⟨⟨n1, n2, n3, n4⟩, ⟨n5, n6, n7, n8⟩, ⟨n9, n10, n11⟩, ⟨n12, n13⟩, n14⟩ := h.nd
  exact ⟨h.ext.setCell (p := ⟨gC, i, none⟩) h.C.slot.2.2 _, h.R.other n3.symm _ _, h.L.other n7.symm _ _, h.A.other n10.symm _ _, h.F.other n12.symm _ _, h.C.store _ _, h.D.other n14 _ _, h.nd⟩
theorem Lab.setD (h : Lab w W n m gR cR gL cL gA gF gC gD lr lc st) (i : Nat) (v : Int) : Lab w (W.setCell ⟨gD, i, none⟩ (.int .i64 v)) n m gR cR gL cL gA gF gC gD lr lc ⟨st.ra, st.rf, st.ca, st.cf.set i v⟩ := by
  obtain ⟨⟨n1, n2, n3, n4⟩, ⟨n5, n6, n7, n8⟩, ⟨n9, n10, n11⟩, ⟨n12, n13⟩, n14⟩ := h.nd
  exact ⟨h.ext.setCell (p := ⟨gD, i, none⟩) h.D.slot.2.2 _, h.R.other n4.symm _ _, h.L.other n8.symm _ _, h.A.other n11.symm _ _, h.F.other n13.symm _ _, h.C.other n14.symm _ _, h.D.store _ _, h.nd⟩
end
/-- a list of which the first k numbers are x -/
def fillL (n k : Nat) (x : Int) : List Int := (List.range n).map fun i => if i < k then x else 0
theorem fillL_zero (n : Nat) (x : Int) : fillL n 0 x = List.replicate n 0 := by apply List.ext_getElem (by simp [fillL]); intro i h1 h2; simp [fillL]
theorem fillL_all (n : Nat) (x : Int) : fillL n n x = List.replicate n x := by
  apply List.ext_getElem (by simp [fillL])
  intro i h1 h2
  simp [fillL] at h1 h2
  simp [fillL, h2]
theorem fillL_set (n k : Nat) (x : Int) : (fillL n k x).set k x = fillL n (k + 1) x := by
  apply List.ext_getElem (by simp [fillL])
  intro j h1 h2
  rw [List.getElem_set]
  simp only [fillL, List.getElem_map, List.getElem_range]
  by_cases e : k = j
  · subst e; rw [if_pos rfl, if_pos (by omega)]
  · rw [if_neg e]
    by_cases h : j < k
    · rw [if_pos h, if_pos (by omega)]
    · rw [if_neg h, if_neg (by omega)]
/-- where chains may begin, the first k rows told -/
def firstTo (lr : List Int) (k : Nat) : List Int := (List.range lr.length).map fun i => if i < k then (if gi lr i = 0 then farT else 0) else 0
theorem firstTo_zero (l : List Int) : firstTo l 0 = List.replicate l.length 0 := by apply List.ext_getElem (by simp [firstTo]); intro i h1 h2; simp [firstTo]
theorem firstTo_all (l : List Int) : firstTo l l.length = l.map fun x => if x = 0 then farT else 0 := by
  apply List.ext_getElem (by simp [firstTo])
  intro i h1 h2
  simp [firstTo] at h1
  simp [firstTo, h1, gi]
theorem firstTo_far {l : List Int} {k : Nat} (h : gi l k = 0) : (firstTo l k).set k 1099511627776 = firstTo l (k + 1) := by
  apply List.ext_getElem (by simp [firstTo])
  intro j h1 h2
  rw [List.getElem_set]
  simp only [firstTo, List.getElem_map, List.getElem_range]
  by_cases e : k = j
  · subst e; rw [if_pos rfl, if_pos (by omega), if_pos h]; rfl
  · rw [if_neg e]
    by_cases h : j < k
    · rw [if_pos h, if_pos (show j < k + 1 by omega)]
    · rw [if_neg h, if_neg (show ¬ j < k + 1 by omega)]
theorem firstTo_near {l : List Int} {k : Nat} (h : ¬ gi l k = 0) : firstTo l (k + 1) = firstTo l k := by
  apply List.ext_getElem (by simp [firstTo])
  intro j h1 h2
  simp only [firstTo, List.getElem_map, List.getElem_range]
  by_cases e : j = k
  · subst e; rw [if_pos (show j < j + 1 by omega), if_neg h, if_neg (show ¬ j < j by omega)]
  · by_cases h : j < k
    · rw [if_pos h, if_pos (show j < k + 1 by omega)]
    · rw [if_neg h, if_neg (show ¬ j < k + 1 by omega)]
theorem first_eq {lr : List Int} {n m : Nat} (h : lr.length = n) : (⟨firstTo lr n, fillL n n (-1), fillL m m 1099511627776, List.replicate m 0⟩ : NS) = firstT lr m := by
  subst h
  unfold firstT
  rw [firstTo_all, fillL_all, fillL_all, List.map_const']; rfl
theorem chainT_step {rf cf : List Int} {F j : Nat} {P P' : Tbl} (h : chainT rf cf F j P = some P') : ∃ F2, F = F2 + 1 ∧ ((gi rf (gi cf j).toNat < 0 ∧ P' = addP P (gi cf j).toNat j 1) ∨
    (¬ gi rf (gi cf j).toNat < 0 ∧ chainT rf cf F2 (gi rf (gi cf j).toNat).toNat (addP (addP P (gi cf j).toNat j 1) (gi cf j).toNat (gi rf (gi cf j).toNat).toNat (-1)) = some P')) := by
  cases F with
  | zero => simp [chainT] at h
  | succ F =>
    refine ⟨F, rfl, ?_⟩
    simp only [chainT] at h
    split at h
    · rename_i h1
      injection h with h
      exact .inl ⟨h1, h.symm⟩
    · rename_i h1
      exact .inr ⟨h1, h⟩
/-- what Next hands back: the plan in its place, one unit more, or nothing left -/
def NextOf (n m : Nat) (c : Nat → Nat → Int) (a b : List Int) (P : Tbl) (more : Bool) (P' : Tbl) : Prop :=
  (more = false ∧ P' = P ∧ PlanT n m (gi a) (gi b) (tg P)) ∨ (more = true ∧ ShapeT n m P' ∧ PartT n m c (gi a) (gi b) (tg P') ∧ colsLeft n m (gi b) (tg P') = colsLeft n m (gi b) (tg P) - 1 ∧ 0 < colsLeft n m (gi b) (tg P))
def RetNext (B U : Nat) (v : Value) (A : Nat → Option Addr) (C G O : Nat → Nat) (n m : Nat) (c : Nat → Nat → Int) (a b : List Int) (P : Tbl) (w : World) (e : Ending) (w' : World) : Prop :=
  ∃ x more P', e = .returned (.tuple #[.int .i64 x, .bool more]) ∧ OwnL 25 w' B U v A C G O P' ∧ Below B w w' ∧ NextOf n m c a b P more P'
set_option maxRecDepth 20000 in
set_option maxHeartbeats 32000000 in
theorem f99_c (ax bx cx : Option Addr) (n m ca cb cc gP cP : Nat) (a b : List Int) (c P : Tbl) (w : World) (B U : Nat) (AA : Nat → Option Addr) (CC GG OO : Nat → Nat) (ha : Ints w ax a) (hb : Ints w bx b) (hc : Table w cx c) (hal : a.length = n) (hbl : b.length = m) (hP : OwnL 25 w B U (.slice (some ⟨gP, 0, none⟩) n cP) AA CC GG OO P)
    (Hc : TOk n m 0 99 c) (hPs : ShapeT n m P) (hpart : PartT n m (tg c) (gi a) (gi b) (tg P)) (hsum : sumN (gi a) n = sumN (gi b) m) (hba : ∀ i, 0 ≤ gi a i ∧ gi a i ≤ 1000) (hbb : ∀ i, 0 ≤ gi b i ∧ gi b i ≤ 1000) :
    Calls Try.prog 99 #[.slice ax n ca, .slice bx m cb, .slice cx n cc, .slice (some ⟨gP, 0, none⟩) n cP] w (RetNext B U (.slice (some ⟨gP, 0, none⟩) n cP) AA CC GG OO n m (tg c) a b P w) := by
  have hn1 := Hc.n1
  have hn5 := Hc.n5
  have hm1 := Hc.m1
  have hm5 := Hc.m5
  obtain ⟨i0, hi0⟩ := infoI
  have Hi := Lib.hid hi0
  clear hi0
  have hbP : ∀ i j, 0 ≤ tg P i j ∧ tg P i j ≤ 1000 := fun i j => by
    by_cases hi : i < n
    · by_cases hj : j < m
      · have := hpart.pos i j hi hj
        have := hpart.le hi hj
        have := hba i
        omega
      · have : tg P i j = 0 := gi_out (by rw [hPs.2 i hi]; exact hj)
        omega
    · have : row P i = [] := by unfold row; rw [List.getElem?_eq_none (by rw [hPs.1]; omega)]; rfl
      have : tg P i j = 0 := by unfold tg; rw [this]; rfl
      omega
  obtain ⟨pa, pc, pe, hPt⟩ := OwnT.table ⟨AA, CC, GG, OO, hP⟩
  have hC125 := f103_c ax bx pa n m ca cb pc a b P w ha hb hPt hal hbl hn1 hn5 hm1 hm5 hPs (fun i => by have := hba i; omega) (fun i => by have := hbb i; omega) (fun i j => by have := hbP i j; omega)
  injection pe with pe1 pe2 pe3
  rw [← pe1, ← pe3] at hC125
  unfold RetLeft at hC125
  have C125 := Lib.hid hC125
  have HN := Lib.hid (next_said (c := tg c) hn5 hm5 Hc.bd hal hbl (fun i _ => (hba i).2) hsum hPs hpart)
  have hlrl : (leftR a P m).length = n := by rw [leftR_len, hal]
  have hlcl : (leftC b P n).length = m := by rw [leftC_len, hbl]
  have HOk := Lib.hid (fun r => reachT_ok (c := tg c) (P := tg P) (firstT_ok (leftR a P m) (m := m) (by omega) hm1) (by rw [hlrl]; exact Hc.bd) (by omega) hm5 r)
  rw [hlrl] at HOk
  have HF0 := Lib.hid (first_eq (m := m) hlrl)
  have Hlr : Hid (∀ i, i < n → gi (leftR a P m) i = gi a i - sumN (tg P i) m) := Lib.hid (fun i hi => gi_leftR (by omega))
  have HlrL := Lib.hid hlrl
  have HlcL := Lib.hid hlcl
  have Hlc : Hid (∀ j, j < m → -6000 ≤ gi (leftC b P n) j ∧ gi (leftC b P n) j ≤ 6000) := Lib.hid (fun j hj => by
    rw [gi_leftC (by omega)]
    have h1 := sumN_bd (K := 1000) (f := fun i => tg P i j) (fun i => by have := hbP i j; omega) n
    have h2 := hbb j
    omega)
  have HPs := Lib.hid hPs
  have HbP := Lib.hid hbP
  have HP := Lib.hid hP
  have HC := Lib.hid Hc
  have hUw := hP.upto
  have hcn : c.length ≤ n ∧ n ≤ c.length := by have := Hc.len; omega
  clear hPt pe1 pe2 pe3 hC125 hpart hsum hba hbb hbP hPs hlrl hlcl hP hal hbl Hc ha hb
  unfold RetNext
  generalize leftR a P m = lr at *
  generalize leftC b P n = lc at *
  go_enter Try.func99, Try.ntmps99
  go_upto_region 2 with (go_at_call 103; refine C125.out.mono ?_; rintro e w1 ⟨gR, cR, gL, cL, rfl, hR1, hL1, hRL, hE1⟩)
  have HR1 := Lib.hid hR1
  have HL1 := Lib.hid hL1
  have hsR := hR1.slot
  have hsL := hL1.slot
  have hE1s := hE1.size
  clear hR1 hL1 C125
  go_cut [12, 13] from 35 to 40 (fun vA vF wx => ∃ gA gF, vA = .slice (some ⟨gA, 0, none⟩) n n ∧ vF = .slice (some ⟨gF, 0, none⟩) n n ∧ Hid (OwnG wx 3 w1.heap.size gA n n (List.replicate n 0)) ∧ Hid (OwnG wx 3 w1.heap.size gF n n (List.replicate n 0)) ∧ gA ≠ gF ∧ Ext w1 wx)
  case first =>
    go_region_held3 (fun _ => True) (first | trivial | assumption)
      (first
        | (refine upon_make w1.heap.size 3 i0 (.int .i64 0) 1 Try.underlying25 Hi.out.1 Hi.out.2.1 Hi.out.2.2.1 (by rw [Hi.out.2.2.2]; omega) (by unfold maxLen; omega) (by first | exact hXm.size | exact (ext_drew _).size) ?_
           intro wm hom hgrow
           first
             | (have hXn : Ext wo1 wm := (Below.refl _ _).grown hgrow (Nat.le_refl _) (by simp)
                have hXk := hXm.trans' hXn)
             | (have hXm : Ext w1 wm := (ext_drew _).trans' ((Below.refl _ _).grown hgrow (Nat.le_refl _) (by simp))
                obtain ⟨wo1, hwo1⟩ : ∃ wo1 : World, wo1 = wm := ⟨_, rfl⟩
                subst hwo1
                have hom1 := hom
                clear hom)))
    · have hF := (made_own hom1).ext hXn
      have hF2 := made_own hom
      have hF3 := (made_own hom1).slot
      go_wp2_with fail
      go_meet
      case rel => exact ⟨_, _, rfl, rfl, Lib.hid hF, Lib.hid hF2, by simp at hF3 ⊢; omega, hXk⟩
    · have hF := (made_own hom1).ext hXn
      have hF2 := made_own hom
      have hF3 := (made_own hom1).slot
      go_wp2_with fail
      go_meet
      case rel => exact ⟨_, _, rfl, rfl, Lib.hid hF2, Lib.hid hF, by simp at hF3 ⊢; omega, hXk⟩
  case rest =>
    obtain ⟨gA, gF, rfl, rfl, HA, HF, hAF, hX⟩ := hcut
    obtain ⟨w2, rfl⟩ : ∃ w2 : World, w2 = wc := ⟨_, rfl⟩
    have hsA := HA.out.slot
    have hsF := HF.out.slot
    have hXs := hX.size
    go_upto_region 1 with fail
    go_cut [14, 15] from 41 to 46 (fun vA vF wx => ∃ gA gF, vA = .slice (some ⟨gA, 0, none⟩) m m ∧ vF = .slice (some ⟨gF, 0, none⟩) m m ∧ Hid (OwnG wx 3 w2.heap.size gA m m (List.replicate m 0)) ∧ Hid (OwnG wx 3 w2.heap.size gF m m (List.replicate m 0)) ∧ gA ≠ gF ∧ Ext w2 wx)
    case first =>
      go_region_held3 (fun _ => True) (first | trivial | assumption)
        (first
          | (refine upon_make w2.heap.size 3 i0 (.int .i64 0) 1 Try.underlying25 Hi.out.1 Hi.out.2.1 Hi.out.2.2.1 (by rw [Hi.out.2.2.2]; omega) (by unfold maxLen; omega) (by first | exact hXm.size | exact (ext_drew _).size) ?_
             intro wm hom hgrow
             first
               | (have hXn : Ext wo1 wm := (Below.refl _ _).grown hgrow (Nat.le_refl _) (by simp)
                  have hXk := hXm.trans' hXn)
               | (have hXm : Ext w2 wm := (ext_drew _).trans' ((Below.refl _ _).grown hgrow (Nat.le_refl _) (by simp))
                  obtain ⟨wo1, hwo1⟩ : ∃ wo1 : World, wo1 = wm := ⟨_, rfl⟩
                  subst hwo1
                  have hom1 := hom
                  clear hom)))
      · have hF := (made_own hom1).ext hXn
        have hF2 := made_own hom
        have hF3 := (made_own hom1).slot
        go_wp2_with fail
        go_meet
        case rel => exact ⟨_, _, rfl, rfl, Lib.hid hF, Lib.hid hF2, by simp at hF3 ⊢; omega, hXk⟩
      · have hF := (made_own hom1).ext hXn
        have hF2 := made_own hom
        have hF3 := (made_own hom1).slot
        go_wp2_with fail
        go_meet
        case rel => exact ⟨_, _, rfl, rfl, Lib.hid hF2, Lib.hid hF, by simp at hF3 ⊢; omega, hXk⟩
    case rest =>
      obtain ⟨gC, gD, rfl, rfl, HCa, HD, hCD, hX2⟩ := hcut
      have hsC := HCa.out.slot
      have hsD := HD.out.slot
      have hE2 := hE1.trans' hX
      have HLab : Hid (Lab w wc n m gR cR gL cL gA gF gC gD lr lc ⟨firstTo lr 0, fillL n 0 (-1), fillL m 0 1099511627776, List.replicate m 0⟩) := Lib.hid ⟨hE2.trans' hX2, (HR1.out.ext hX).ext hX2, (HL1.out.ext hX).ext hX2, by rw [firstTo_zero, HlrL.out]; exact (HA.out.ext hX2).base hE1s, by show OwnG _ _ _ _ _ _ (fillL n 0 (-1)); rw [fillL_zero]; exact (HF.out.ext hX2).base hE1s, by show OwnG _ _ _ _ _ _ (fillL m 0 1099511627776); rw [fillL_zero]; exact HCa.out.base hE2.size, HD.out.base hE2.size, by omega⟩
      clear HR1 HL1 HA HF HCa HD hX hX2 hXs hsA hsF hsC hsD hE1 hE2 hE1s hsR hsL hRL hAF hCD
      go_wp2_with fail
      have Hr0 : Hid (∀ k, k < n → gi lr k = gi lr k) := Lib.hid (fun _ _ => rfl)
      clear Hr0
      go_loopw [49] (fun i wr => ∃ k : Nat, k ≤ n ∧ i = .int .i64 k ∧ Hid (Lab w wr n m gR cR gL cL gA gF gC gD lr lc ⟨firstTo lr k, fillL n k (-1), fillL m 0 1099511627776, List.replicate m 0⟩)) (fun i _ => n - (intOf i).toNat)
      case atStart => exact ⟨0, Nat.zero_le _, rfl, HLab⟩
      case round =>
        obtain ⟨k, hk, rfl, HB⟩ := hrel
        by_cases hlt : k < n
        case neg =>
          obtain rfl : n = k := by omega
          clear HLab
          go_wp2_with fail
          go_loopw [65] (fun i wr => ∃ k : Nat, k ≤ m ∧ i = .int .i64 k ∧ Hid (Lab w wr n m gR cR gL cL gA gF gC gD lr lc ⟨firstTo lr n, fillL n n (-1), fillL m k 1099511627776, List.replicate m 0⟩)) (fun i _ => m - (intOf i).toNat)
          case atStart => exact ⟨0, Nat.zero_le _, rfl, HB⟩
          case round =>
            obtain ⟨k, hk, rfl, HB⟩ := hrel
            by_cases hlt : k < m
            case pos =>
              have f1 := HB.out.C.froz k
              have c2 := HB.out.C.cellg hlt
              have z2 := HB.out.C.slot.1
              have HB2 := HB.out.setC k 1099511627776
              dsimp only at HB2 c2
              rw [fillL_set] at HB2
              have HB2 := Lib.hid HB2
              generalize gi (fillL m k 1099511627776) k = z at *
              go_wp2_with fail
              go_roundw
              case rel => exact ⟨k + 1, by omega, by go_num, HB2⟩
              case measure => simp [intOf]; omega
            obtain rfl : m = k := by omega
            rw [HF0.out] at HB
            clear HF0
            generalize firstT lr m = st0 at *
            go_wp2_with fail
            go_loopw [77] (fun i wr => ∃ r : Nat, r ≤ n + m ∧ i = .int .i64 r ∧ Hid (Lab w wr n m gR cR gL cL gA gF gC gD lr lc (reachT (tg c) (tg P) n m st0 r))) (fun i _ => n + m - (intOf i).toNat)
            case atStart => exact ⟨0, Nat.zero_le _, rfl, HB⟩
            case round =>
              obtain ⟨r, hr, rfl, HB⟩ := hrel
              by_cases hltr : r < n + m
              case neg =>
                obtain rfl : r = n + m := by omega
                have HOkE := Lib.hid (HOk.out (n + m))
                clear HOk
                generalize reachT (tg c) (tg P) n m st0 (n + m) = X at *
                go_wp2_with fail
                have hmn := HOkE
                have hBw : B ≤ w.heap.size := by
                  obtain ⟨_, h1, h2, _⟩ := HP.out.spot (i := 0) HPs.out.1 rfl (by omega) (HPs.out.2 0 (by omega)) hm1
                  omega
                clear hmn
                go_loopg [23, 170] m (fun gk v i wr => ∃ s : Nat, s + gk = m ∧ i = .int .i64 s ∧ v = .int .i64 (bestT lc X.ca s) ∧ Hid (Lab w wr n m gR cR gL cL gA gF gC gD lr lc X))
                case atStart => exact ⟨0, by omega, rfl, rfl, HB⟩
                case round =>
                  obtain ⟨s, hs, rfl, rfl, HB⟩ := hrel
                  by_cases hlts : s < m
                  case pos =>
                    have c1 := HB.out.L.cellg hlts
                    have c2 := HB.out.C.cellg hlts
                    have z1 := HB.out.L.slot.1
                    have z2 := HB.out.C.slot.1
                    have hbb := bestT_bd lc X.ca s
                    have Hst : Hid (bestT lc X.ca (s + 1) = if 0 < gi lc s ∧ gi X.ca s < 1099511627776 ∧ (bestT lc X.ca s < 0 ∨ gi X.ca s < gi X.ca (bestT lc X.ca s).toNat) then (s : Int) else bestT lc X.ca s) := Lib.hid rfl
                    obtain ⟨g2, rfl⟩ : ∃ g2, gk = g2 + 1 := ⟨gk - 1, by omega⟩
                    have c3 : ∀ p : Nat, bestT lc X.ca s = p → wr.cell? ⟨gC, p, none⟩ = some (.int .i64 (gi X.ca p)) := fun p hp => HB.out.C.cellg (by omega)
                    have C3 := Lib.hid c3
                    clear c3
                    generalize bestT lc X.ca s = bb at *
                    generalize gi lc s = x at *
                    generalize gi X.ca s = y at *
                    go_wp2_with fail
                    go_cut [198] from 171 to 200 (fun t wx => t = .bool (decide (0 < x ∧ y < 1099511627776 ∧ (bb < 0 ∨ y < gi X.ca bb.toNat))) ∧ Ext wr wx)
                    case first =>
                      by_cases d0 : 0 < x
                      case neg =>
                        have e0 : decide (0 < x) = false := decide_eq_false d0
                        have E1 := Lib.hid (show decide (0 < x ∧ y < 1099511627776 ∧ (bb < 0 ∨ y < gi X.ca bb.toNat)) = false from decide_eq_false (fun h => d0 h.1))
                        refine wp_region_ext (by kernel_rfl) (by kernel_rfl) ?_
                        repeat (go_big_quiet_step (fail))
                        refine wpQuiet_nil ?_
                        intro w6 hX6
                        go_wp2_with fail
                        go_meet
                        case rel => exact ⟨by rw [E1.out], hX6⟩
                      have e0 : decide (0 < x) = true := decide_eq_true d0
                      by_cases d1 : y < 1099511627776
                      case neg =>
                        have e1 : decide (y < 1099511627776) = false := decide_eq_false d1
                        have E1 := Lib.hid (show decide (0 < x ∧ y < 1099511627776 ∧ (bb < 0 ∨ y < gi X.ca bb.toNat)) = false from decide_eq_false (fun h => d1 h.2.1))
                        refine wp_region_ext (by kernel_rfl) (by kernel_rfl) ?_
                        repeat (go_big_quiet_step (fail))
                        refine wpQuiet_nil ?_
                        intro w6 hX6
                        go_wp2_with fail
                        go_meet
                        case rel => exact ⟨by rw [E1.out], hX6⟩
                      have e1 : decide (y < 1099511627776) = true := decide_eq_true d1
                      by_cases d2 : bb < 0
                      case pos =>
                        have e2 : decide (bb < 0) = true := decide_eq_true d2
                        have E1 := Lib.hid (show decide (0 < x ∧ y < 1099511627776 ∧ (bb < 0 ∨ y < gi X.ca bb.toNat)) = true from decide_eq_true ⟨d0, d1, .inl d2⟩)
                        refine wp_region_ext (by kernel_rfl) (by kernel_rfl) ?_
                        repeat (go_big_quiet_step (fail))
                        refine wpQuiet_nil ?_
                        intro w6 hX6
                        go_wp2_with fail
                        go_meet
                        case rel => exact ⟨by rw [E1.out], hX6⟩
                      have e2 : decide (bb < 0) = false := decide_eq_false d2
                      obtain ⟨p, rfl⟩ := Int.eq_ofNat_of_zero_le (show 0 ≤ bb by omega)
                      have c3 := C3.out p rfl
                      by_cases d3 : y < gi X.ca p
                      case neg =>
                        have e3 : decide (y < gi X.ca p) = false := decide_eq_false d3
                        have E1 := Lib.hid (show decide (0 < x ∧ y < 1099511627776 ∧ ((p : Int) < 0 ∨ y < gi X.ca (p : Int).toNat)) = false from decide_eq_false (fun h => by rw [Int.toNat_natCast] at h; rcases h.2.2 with h | h; exact d2 h; exact d3 h))
                        refine wp_region_ext (by kernel_rfl) (by kernel_rfl) ?_
                        repeat (go_big_quiet_step (fail))
                        refine wpQuiet_nil ?_
                        intro w6 hX6
                        go_wp2_with fail
                        go_meet
                        case rel => exact ⟨by rw [E1.out], hX6⟩
                      have e3 : decide (y < gi X.ca p) = true := decide_eq_true d3
                      have E1 := Lib.hid (show decide (0 < x ∧ y < 1099511627776 ∧ ((p : Int) < 0 ∨ y < gi X.ca (p : Int).toNat)) = true from decide_eq_true ⟨d0, d1, .inr (by rw [Int.toNat_natCast]; exact d3)⟩)
                      refine wp_region_ext (by kernel_rfl) (by kernel_rfl) ?_
                      repeat (go_big_quiet_step (fail))
                      refine wpQuiet_nil ?_
                      intro w6 hX6
                      go_wp2_with fail
                      go_meet
                      case rel => exact ⟨by rw [E1.out], hX6⟩
                    case rest =>
                      obtain ⟨rfl, hX6⟩ := hcut
                      have HB1 := Lib.hid (HB.out.grow hX6)
                      clear HB c1 c2 z1 z2 C3
                      go_upto_if 198 with fail
                      by_cases hcB : 0 < x ∧ y < 1099511627776 ∧ (bb < 0 ∨ y < gi X.ca bb.toNat)
                      · rw [decide_eq_true hcB]
                        have h2 := Hst.out
                        rw [if_pos hcB] at h2
                        have Hst := Lib.hid h2
                        clear h2 hcB
                        go_wp2_with fail
                        go_roundg g2
                        case measure => omega
                        case rel => exact ⟨s + 1, by omega, by go_num, by rw [Hst.out], HB1⟩
                      · rw [decide_eq_false hcB]
                        have h2 := Hst.out
                        rw [if_neg hcB] at h2
                        have Hst := Lib.hid h2
                        clear h2 hcB
                        go_wp2_with fail
                        go_roundg g2
                        case measure => omega
                        case rel => exact ⟨s + 1, by omega, by go_num, by rw [Hst.out], HB1⟩
                  obtain rfl : m = s := by omega
                  rcases HN.out with ⟨hneg, hplan⟩ | ⟨q, hqm, hbq, P', hch, hsh, hpt, hcl, hpos⟩
                  · have e1 : decide (bestT lc X.ca m < 0) = true := decide_eq_true hneg
                    have HR : Hid (RetNext B U (.slice (some ⟨gP, 0, none⟩) n cP) AA CC GG OO n m (tg c) a b P w (.returned (.tuple #[.int .i64 0, .bool false])) wr) := Lib.hid ⟨0, false, P, rfl, HP.out.ext HB.out.ext, Below.mono HB.out.ext hBw, .inl ⟨rfl, rfl, hplan⟩⟩
                    clear hneg hplan HN
                    generalize bestT lc X.ca m = bb at *
                    go_wp2_with fail
                    go_ret2
                    exact HR.out
                  · have HCh := Lib.hid hch
                    have HNx : Hid (NextOf n m (tg c) a b P true P') := Lib.hid (.inr ⟨rfl, hsh, hpt, hcl, hpos⟩)
                    rw [hbq]
                    have e1 : decide ((q : Int) < 0) = false := decide_eq_false (by omega)
                    clear hch hsh hpt hcl hpos hbq HN
                    have KP : Hid (OwnL 25 wr B U (.slice (some ⟨gP, 0, none⟩) n cP) AA CC GG OO P) := Lib.hid (HP.out.ext HB.out.ext)
                    have KB : Hid (Below B w wr) := Lib.hid (Below.mono HB.out.ext hBw)
                    have KF := Lib.hid HB.out.F
                    have KC := Lib.hid HB.out.C
                    have KD := Lib.hid HB.out.D
                    have hnd := HB.out.nd
                    clear HP HB
                    go_wp2_with fail
                    go_loopg [26] 6 (fun gk v wr => ∃ (z : Int) (Pc : Tbl), v = .int .i64 z ∧ gk ≤ 6 ∧ Hid ((z < 0 ∧ Pc = P') ∨ (∃ j : Nat, z = j ∧ j < m ∧ 1 ≤ gk ∧ chainT X.rf X.cf (gk - 1) j Pc = some P')) ∧ Hid (OwnL 25 wr B U (.slice (some ⟨gP, 0, none⟩) n cP) AA CC GG OO Pc) ∧ Hid (Below B w wr) ∧ Hid (ShapeT n m Pc) ∧ Hid (OwnG wr 3 w.heap.size gF n n X.rf) ∧ Hid (OwnG wr 3 w.heap.size gC m m X.ca) ∧ Hid (OwnG wr 3 w.heap.size gD m m X.cf) ∧ Hid (∀ p q, -(6 - (gk : Int)) ≤ tg Pc p q ∧ tg Pc p q ≤ 1000 + (6 - (gk : Int))))
                    case atStart => exact ⟨q, P, rfl, Nat.le_refl _, Lib.hid (.inr ⟨q, rfl, hqm, by omega, HCh.out⟩), KP, KB, HPs, KF, KC, KD, Lib.hid (fun p q => by have := HbP.out p q; omega)⟩
                    case round =>
                      obtain ⟨z, Pc, rfl, hg6, HJ, KP, KB, KS, KF, KC, KD, Kb⟩ := hrel
                      rcases HJ.out with ⟨hz, hPc⟩ | ⟨j, rfl, hjm, hg1, hch⟩
                      · have e2 : decide (0 ≤ z) = false := decide_eq_false (by omega)
                        subst hPc
                        have c1 := KC.out.cellg hqm
                        have z1 := KC.out.slot.1
                        have HR : Hid (RetNext B U (.slice (some ⟨gP, 0, none⟩) n cP) AA CC GG OO n m (tg c) a b P w (.returned (.tuple #[.int .i64 (gi X.ca q), .bool true])) wr) := Lib.hid ⟨_, true, Pc, rfl, KP.out, KB.out, HNx.out⟩
                        clear HJ hz
                        generalize gi X.ca q = y at *
                        go_wp2_with fail
                        go_ret2
                        exact HR.out
                      · have e2 : decide (0 ≤ (j : Int)) = true := decide_eq_true (by omega)
                        obtain ⟨F2, hF2, hstep⟩ := chainT_step hch
                        have hcf := HOkE.out.b4 j
                        obtain ⟨i, hi⟩ := Int.eq_ofNat_of_zero_le hcf.1
                        rw [hi] at hstep hcf
                        rw [Int.toNat_natCast] at hstep
                        have hin : i < n := by omega
                        have d1 := KD.out.cellg hjm
                        rw [hi] at d1
                        have Hi2 := Lib.hid hi
                        have Hstep := Lib.hid hstep
                        have zD := KD.out.slot.1
                        obtain ⟨s1, s2, s3, s4⟩ := KP.out.spot (i := i) KS.out.1 rfl hin (KS.out.2 i hin) hm1
                        obtain ⟨s5, s6⟩ := s4 j hjm
                        have bd := Kb.out i j
                        have hU := KP.out.upto
                        have zF := KF.out.slot
                        have zC := KC.out.slot
                        have zD2 := KD.out.slot
                        have zG : GG i < wr.heap.size := by omega
                        have zP : gP < wr.heap.size := by have := KP.out.blk gP rfl; omega
                        have KP1 := Lib.hid (KP.out.store (i := i) (j := j) (by rw [KS.out.1]; exact hin) (by rw [KS.out.2 i hin]; exact hjm) (tg Pc i j + 1))
                        rw [show setT Pc i j (tg Pc i j + 1) = addP Pc i j 1 from rfl] at KP1
                        have KB1 := Lib.hid (KB.out.setCell (p := ⟨GG i, OO i + j, none⟩) s2 (.int .i64 (tg Pc i j + 1)))
                        have KS1 := Lib.hid (addP_shape (j := j) KS.out hin 1)
                        have KF1 := Lib.hid (KF.out.other (g' := GG i) (by omega) (OO i + j) (.int .i64 (tg Pc i j + 1)))
                        have KC1 := Lib.hid (KC.out.other (g' := GG i) (by omega) (OO i + j) (.int .i64 (tg Pc i j + 1)))
                        have KD1 := Lib.hid (KD.out.other (g' := GG i) (by omega) (OO i + j) (.int .i64 (tg Pc i j + 1)))
                        have Kb1 : Hid (∀ p q, -(6 - (gk : Int)) ≤ tg (addP Pc i j 1) p q ∧ tg (addP Pc i j 1) p q ≤ 1001 + (6 - (gk : Int))) := Lib.hid (fun p q => by rw [tg_addP KS.out hin hjm]; have := Kb.out p q; have := Kb.out i j; split <;> omega)
                        have c1 := KF1.out.cellg hin
                        obtain ⟨t1, t2, t3, t4⟩ := KP1.out.spot (i := i) KS1.out.1 rfl hin (KS1.out.2 i hin) hm1
                        have hrf := HOkE.out.b2 i
                        have Kb0 := Lib.hid Kb.out
                        clear HJ hch hstep s4 hi KP KB KF KC KD Kb
                        have hgk : F2 + 2 = gk := by omega
                        subst hgk
                        clear hF2
                        by_cases hr0 : gi X.rf i < 0
                        · have e3 : decide (0 ≤ gi X.rf i) = false := decide_eq_false (by omega)
                          have hP2 : Hid (addP Pc i j 1 = P') := Lib.hid (by rcases Hstep.out with ⟨_, h⟩ | ⟨h, _⟩; exact h.symm; exact absurd hr0 h)
                          have HZ : Hid ((gi X.rf i < 0 ∧ addP Pc i j 1 = P') ∨ (∃ j' : Nat, gi X.rf i = j' ∧ j' < m ∧ 1 ≤ F2 + 1 ∧ chainT X.rf X.cf (F2 + 1 - 1) j' (addP Pc i j 1) = some P')) := Lib.hid (.inl ⟨hr0, hP2.out⟩)
                          have Kb2 : Hid (∀ p q, -(6 - ((F2 + 1 : Nat) : Int)) ≤ tg (addP Pc i j 1) p q ∧ tg (addP Pc i j 1) p q ≤ 1000 + (6 - ((F2 + 1 : Nat) : Int))) := Lib.hid (fun p q => by have := Kb1.out p q; omega)
                          clear hr0 hrf t4 Hstep
                          generalize tg Pc i j = y at *
                          generalize addP Pc i j 1 = P1 at *
                          go_wp2_with fail
                          go_roundg (F2 + 1)
                          case measure => omega
                          case rel => exact ⟨_, P1, rfl, by omega, HZ, KP1, KB1, KS1, KF1, KC1, KD1, Kb2⟩
                        · obtain ⟨j', hj'⟩ := Int.eq_ofNat_of_zero_le (show 0 ≤ gi X.rf i by omega)
                          have hjm' : j' < m := by omega
                          have e3 : decide (0 ≤ (j' : Int)) = true := decide_eq_true (by omega)
                          have hch2 : Hid (chainT X.rf X.cf F2 j' (addP (addP Pc i j 1) i j' (-1)) = some P') := Lib.hid (by
                            rcases Hstep.out with ⟨h, _⟩ | ⟨_, h⟩
                            · exact absurd h hr0
                            · rw [hj', Int.toNat_natCast] at h; exact h)
                          have hF1 : 1 ≤ F2 := by
                            cases F2 with
                            | zero => have := hch2.out; simp [chainT] at this
                            | succ => omega
                          rw [hj'] at c1
                          obtain ⟨t5, t6⟩ := t4 j' hjm'
                          have bd2 := Kb1.out i j'
                          have KP2 := KP1.out.store (i := i) (j := j') (by rw [KS1.out.1]; exact hin) (by rw [KS1.out.2 i hin]; exact hjm') (tg (addP Pc i j 1) i j' - 1)
                          rw [show setT (addP Pc i j 1) i j' (tg (addP Pc i j 1) i j' - 1) = addP (addP Pc i j 1) i j' (-1) from rfl] at KP2
                          have KP2 := Lib.hid KP2
                          have KB2 := Lib.hid (KB1.out.setCell (p := ⟨GG i, OO i + j', none⟩) s2 (.int .i64 (tg (addP Pc i j 1) i j' - 1)))
                          have KS2 := Lib.hid (addP_shape (j := j') KS1.out hin (-1))
                          have KF2 := Lib.hid (KF1.out.other (g' := GG i) (by omega) (OO i + j') (.int .i64 (tg (addP Pc i j 1) i j' - 1)))
                          have KC2 := Lib.hid (KC1.out.other (g' := GG i) (by omega) (OO i + j') (.int .i64 (tg (addP Pc i j 1) i j' - 1)))
                          have KD2 := Lib.hid (KD1.out.other (g' := GG i) (by omega) (OO i + j') (.int .i64 (tg (addP Pc i j 1) i j' - 1)))
                          have Kb2 : Hid (∀ p q, -(6 - ((F2 + 1 : Nat) : Int)) ≤ tg (addP (addP Pc i j 1) i j' (-1)) p q ∧ tg (addP (addP Pc i j 1) i j' (-1)) p q ≤ 1000 + (6 - ((F2 + 1 : Nat) : Int))) := Lib.hid (fun p q => by
                            rw [tg_addP KS1.out hin hjm', tg_addP KS.out hin hjm, tg_addP KS.out hin hjm]
                            have h1 := Kb0.out p q
                            have h2 := Kb0.out i j
                            have h3 := Kb0.out i j'
                            split
                            · split <;> omega
                            · split <;> omega)
                          have HZ : Hid (((j' : Int) < 0 ∧ addP (addP Pc i j 1) i j' (-1) = P') ∨ (∃ j2 : Nat, (j' : Int) = j2 ∧ j2 < m ∧ 1 ≤ F2 + 1 ∧ chainT X.rf X.cf (F2 + 1 - 1) j2 (addP (addP Pc i j 1) i j' (-1)) = some P')) := Lib.hid (.inr ⟨j', rfl, hjm', by omega, hch2.out⟩)
                          clear t4 hr0 hrf hj' Hstep hch2 KS
                          generalize tg Pc i j = y at *
                          generalize addP (addP Pc i j 1) i j' (-1) = P2 at *
                          generalize tg (addP Pc i j 1) i j' = y2 at *
                          go_wp2_with fail
                          go_roundg (F2 + 1)
                          case measure => omega
                          case rel => exact ⟨_, P2, rfl, by omega, HZ, KP2, KB2, KS2, KF2, KC2, KD2, Kb2⟩
              have hd : decide ((r : Int) < (n : Int) + (m : Int)) = true := by simp; omega
              have Hnext : Hid (reachT (tg c) (tg P) n m st0 (r + 1) = relK (tg c) (tg P) m (reachT (tg c) (tg P) n m st0 r) (n * m)) := Lib.hid rfl
              have HOkR := Lib.hid (HOk.out r)
              generalize reachT (tg c) (tg P) n m st0 r = X at *
              go_wp2_with fail
              go_loopw [81] (fun i wr => ∃ p : Nat, p ≤ n ∧ i = .int .i64 p ∧ Hid (Lab w wr n m gR cR gL cL gA gF gC gD lr lc (relK (tg c) (tg P) m X (p * m)))) (fun i _ => n - (intOf i).toNat)
              case atStart => exact ⟨0, Nat.zero_le _, rfl, by rw [Nat.zero_mul]; exact HB⟩
              case round =>
                obtain ⟨p, hp, rfl, HB⟩ := hrel
                by_cases hltp : p < n
                case neg =>
                  obtain rfl : p = n := by omega
                  rw [← Hnext.out] at HB
                  go_wp2_with fail
                  go_roundw
                  case rel => exact ⟨r + 1, by omega, by go_num, HB⟩
                  case measure => simp [intOf]; omega
                obtain ⟨b3, o3, a3, c3, e3, hb3, hc3, hI3⟩ := hc p (by omega)
                subst e3
                have hcc := (HB.out.ext.cell' hb3).trans hc3
                have hlen3 : c[p].length = m := by have := HC.out.cols p hltp; rw [row_at (by omega)] at this; exact this
                rw [hlen3] at hcc
                have Hl3 := Lib.hid hlen3
                have Hrow3 : Hid (Ints w a3 (row c p)) := Lib.hid (by rw [row_at (by omega)]; exact hI3)
                clear hc3 hI3 hlen3
                go_wp2_with fail
                go_loopg [88] m (fun gk i wr => ∃ j : Nat, j + gk = m ∧ i = .int .i64 j ∧ Hid (Lab w wr n m gR cR gL cL gA gF gC gD lr lc (relK (tg c) (tg P) m X (p * m + j))))
                case atStart => exact ⟨0, by omega, rfl, HB⟩
                case round =>
                  obtain ⟨j, hj, rfl, HB⟩ := hrel
                  by_cases hltj : j < m
                  case neg =>
                    obtain rfl : j = m := by omega
                    have hmul : p * j + j = (p + 1) * j := by rw [Nat.add_mul, Nat.one_mul]
                    rw [hmul] at HB
                    clear hmul
                    go_wp2_with fail
                    go_roundw
                    case rel => exact ⟨p + 1, by omega, by go_num, HB⟩
                    case measure => simp [intOf]; omega
                  have hjm := lt_at hltp hltj
                  have ham := area_le hn5 hm5
                  have HE := HB.out.ext
                  obtain ⟨b5, o5, rfl, hb5, hc5⟩ := Hrow3.out.ext HE j (by rw [row_at (by omega), Hl3.out]; exact hltj)
                  rw [← gi_at, show gi (row c p) j = tg c p j from rfl] at hc5
                  obtain ⟨s1, s2, s3, s4⟩ := (HP.out.ext HE).spot (i := p) HPs.out.1 rfl hltp (HPs.out.2 p hltp) hm1
                  obtain ⟨s5, -⟩ := s4 j hltj
                  clear s4
                  have hcb := HC.out.bd p j hltp hltj
                  have Hsucc := Lib.hid (relK_at (c := tg c) (P := tg P) (i := p) hltj X)
                  have HY : Hid (NsOk n m 1000 (relK (tg c) (tg P) m X (p * m + j))) := Lib.hid ((relK_ok HOkR.out HC.out.bd (p * m + j) (by omega)).mono (by omega))
                  clear hjm ham
                  generalize relK (tg c) (tg P) m X (p * m + j) = Y at *
                  generalize tg c p j = cc at *
                  generalize hpp : tg P p j = pp at *
                  have HPp := Lib.hid hpp
                  clear hpp
                  have y1 := HY.out.b1 p
                  have y2 := HY.out.b3 j
                  unfold farT at y1 y2
                  have a1 := HB.out.A.cellg hltp
                  have a2 := HB.out.C.cellg hltj
                  have z1 := HB.out.A.slot.1
                  have z2 := HB.out.C.slot.1
                  have HS : Hid (stepA cc p j Y = stepA cc p j Y) := Lib.hid rfl
                  have HZ := Lib.hid (stepA_ok HY.out hcb hltp hltj)
                  have HSy : Hid ((gi Y.ra p < 1099511627776 ∧ gi Y.ra p + cc < gi Y.ca j → stepA cc p j Y = ⟨Y.ra, Y.rf, Y.ca.set j (gi Y.ra p + cc), Y.cf.set j p⟩) ∧ (¬ (gi Y.ra p < 1099511627776 ∧ gi Y.ra p + cc < gi Y.ca j) → stepA cc p j Y = Y)) := Lib.hid ⟨fun h => if_pos h, fun h => if_neg h⟩
                  clear HS
                  generalize stepA cc p j Y = Z at *
                  generalize hu : gi Y.ra p = u at *
                  generalize hv : gi Y.ca j = v at *
                  have Hu := Lib.hid hu
                  have Hv := Lib.hid hv
                  clear hu hv
                  obtain ⟨g2, rfl⟩ : ∃ g2, gk = g2 + 1 := ⟨gk - 1, by omega⟩
                  have HRP : Hid (p < n ∧ j < m) := Lib.hid ⟨hltp, hltj⟩
                  go_wp2_with fail
                  go_cut [110] from 89 to 165 (fun t wx => t = .bool (decide (u < 1099511627776 ∧ u + cc < v)) ∧ Ext wr wx)
                  case first =>
                    by_cases c1 : u < 1099511627776
                    case neg =>
                      have d1 : decide (u < 1099511627776) = false := decide_eq_false c1
                      have e1 : decide (u < 1099511627776 ∧ u + cc < v) = false := decide_eq_false (fun h => c1 h.1)
                      have E1 := Lib.hid e1
                      clear e1
                      refine wp_region_ext (by kernel_rfl) (by kernel_rfl) ?_
                      repeat (go_big_quiet_step (fail))
                      refine wpQuiet_nil ?_
                      intro w6 hX6
                      go_wp2_with fail
                      go_meet
                      case rel => exact ⟨by rw [E1.out], hX6⟩
                    have d1 : decide (u < 1099511627776) = true := decide_eq_true c1
                    by_cases c2 : u + cc < v
                    case neg =>
                      have d2 : decide (u + cc < v) = false := decide_eq_false c2
                      have e1 : decide (u < 1099511627776 ∧ u + cc < v) = false := decide_eq_false (fun h => c2 h.2)
                      have E1 := Lib.hid e1
                      clear e1
                      refine wp_region_ext (by kernel_rfl) (by kernel_rfl) ?_
                      repeat (go_big_quiet_step (fail))
                      refine wpQuiet_nil ?_
                      intro w6 hX6
                      go_wp2_with fail
                      go_meet
                      case rel => exact ⟨by rw [E1.out], hX6⟩
                    have d2 : decide (u + cc < v) = true := decide_eq_true c2
                    have e1 : decide (u < 1099511627776 ∧ u + cc < v) = true := decide_eq_true ⟨c1, c2⟩
                    have E1 := Lib.hid e1
                    clear e1
                    refine wp_region_ext (by kernel_rfl) (by kernel_rfl) ?_
                    repeat (go_big_quiet_step (fail))
                    refine wpQuiet_nil ?_
                    intro w6 hX6
                    go_wp2_with fail
                    go_meet
                    case rel => exact ⟨by rw [E1.out], hX6⟩
                  case rest =>
                    obtain ⟨rfl, hX6⟩ := hcut
                    have HB1 := Lib.hid (HB.out.grow hX6)
                    clear HB a1 a2 z1 z2
                    obtain ⟨w6, rfl⟩ : ∃ w6 : World, w6 = wc := ⟨_, rfl⟩
                    go_upto_if 110 with fail
                    go_cut [] from 89 to 165 (fun wx => Hid (Lab w wx n m gR cR gL cL gA gF gC gD lr lc Z))
                    case first =>
                      have a1 := HB1.out.A.cellg hltp
                      rw [Hu.out] at a1
                      have z1 := HB1.out.A.slot.1
                      by_cases hcA : u < 1099511627776 ∧ u + cc < v
                      · rw [decide_eq_true hcA]
                        have hz := HSy.out.1 hcA
                        have z2 := HB1.out.C.slot.1
                        have z3 := HB1.out.D.slot.1
                        have f1 := HB1.out.C.froz j
                        have c1 := HB1.out.C.cellg hltj
                        have HB2 := HB1.out.setC j (u + cc)
                        have f2 := HB2.D.froz j
                        have c2 := HB2.D.cellg hltj
                        have HB3 := HB2.setD j p
                        dsimp only at HB3 c2
                        rw [← hz] at HB3
                        have HB3 := Lib.hid HB3
                        clear HB2 hz hcA
                        generalize gi Y.ca j = q1 at *
                        generalize gi Y.cf j = q2 at *
                        go_wp2_with fail
                        go_meet
                        case rel => exact HB3
                      · rw [decide_eq_false hcA]
                        rw [HSy.out.2 hcA] at *
                        clear hcA
                        go_wp2_with fail
                        go_meet
                        case rel => exact HB1
                    case rest =>
                      clear HB1 HSy hX6
                      have HB := hcut
                      obtain ⟨w7, rfl⟩ : ∃ w7 : World, w7 = wc := ⟨_, rfl⟩
                      have y1 := HZ.out.b1 p
                      have y2 := HZ.out.b3 j
                      unfold farT at y1 y2
                      have a1 := HB.out.A.cellg hltp
                      have a2 := HB.out.C.cellg hltj
                      have z1 := HB.out.A.slot.1
                      have z2 := HB.out.C.slot.1
                      have HE := HB.out.ext
                      obtain ⟨s1, s2, s3, s4⟩ := (HP.out.ext HE).spot (i := p) HPs.out.1 rfl hltp (HPs.out.2 p hltp) hm1
                      obtain ⟨s5, -⟩ := s4 j hltj
                      clear s4 hcut
                      have z3 : GG p < w7.heap.size := by have := HE.size; omega
                      have z4 : gP < w7.heap.size := by have := HE.size; have := HP.out.blk gP rfl; omega
                      have Hpp : Hid (tg P p j = pp) := HPp
                      rw [Hpp.out] at s5
                      have HSy : Hid ((0 < pp ∧ gi Z.ca j < 1099511627776 ∧ gi Z.ca j - cc < gi Z.ra p → stepB cc pp p j Z = ⟨Z.ra.set p (gi Z.ca j - cc), Z.rf.set p j, Z.ca, Z.cf⟩) ∧ (¬ (0 < pp ∧ gi Z.ca j < 1099511627776 ∧ gi Z.ca j - cc < gi Z.ra p) → stepB cc pp p j Z = Z)) := Lib.hid ⟨fun h => if_pos h, fun h => if_neg h⟩
                      generalize hu : gi Z.ra p = u2 at *
                      generalize hv : gi Z.ca j = v2 at *
                      have Hu := Lib.hid hu
                      have Hv := Lib.hid hv
                      clear hu hv
                      go_wp2_with fail
                      go_cut [151] from 89 to 165 (fun t wx => t = .bool (decide (0 < pp ∧ v2 < 1099511627776 ∧ v2 - cc < u2)) ∧ Ext w7 wx)
                      case first =>
                        by_cases c0 : 0 < pp
                        case neg =>
                          have d0 : decide (0 < pp) = false := decide_eq_false c0
                          have e1 : decide (0 < pp ∧ v2 < 1099511627776 ∧ v2 - cc < u2) = false := decide_eq_false (fun h => c0 h.1)
                          have E1 := Lib.hid e1
                          clear e1
                          refine wp_region_ext (by kernel_rfl) (by kernel_rfl) ?_
                          repeat (go_big_quiet_step (fail))
                          refine wpQuiet_nil ?_
                          intro w6 hX6
                          go_wp2_with fail
                          go_meet
                          case rel => exact ⟨by rw [E1.out], hX6⟩
                        have d0 : decide (0 < pp) = true := decide_eq_true c0
                        by_cases c1 : v2 < 1099511627776
                        case neg =>
                          have d1 : decide (v2 < 1099511627776) = false := decide_eq_false c1
                          have e1 : decide (0 < pp ∧ v2 < 1099511627776 ∧ v2 - cc < u2) = false := decide_eq_false (fun h => c1 h.2.1)
                          have E1 := Lib.hid e1
                          clear e1
                          refine wp_region_ext (by kernel_rfl) (by kernel_rfl) ?_
                          repeat (go_big_quiet_step (fail))
                          refine wpQuiet_nil ?_
                          intro w6 hX6
                          go_wp2_with fail
                          go_meet
                          case rel => exact ⟨by rw [E1.out], hX6⟩
                        have d1 : decide (v2 < 1099511627776) = true := decide_eq_true c1
                        by_cases c2 : v2 - cc < u2
                        case neg =>
                          have d2 : decide (v2 - cc < u2) = false := decide_eq_false c2
                          have e1 : decide (0 < pp ∧ v2 < 1099511627776 ∧ v2 - cc < u2) = false := decide_eq_false (fun h => c2 h.2.2)
                          have E1 := Lib.hid e1
                          clear e1
                          refine wp_region_ext (by kernel_rfl) (by kernel_rfl) ?_
                          repeat (go_big_quiet_step (fail))
                          refine wpQuiet_nil ?_
                          intro w6 hX6
                          go_wp2_with fail
                          go_meet
                          case rel => exact ⟨by rw [E1.out], hX6⟩
                        have d2 : decide (v2 - cc < u2) = true := decide_eq_true c2
                        have e1 : decide (0 < pp ∧ v2 < 1099511627776 ∧ v2 - cc < u2) = true := decide_eq_true ⟨c0, c1, c2⟩
                        have E1 := Lib.hid e1
                        clear e1
                        refine wp_region_ext (by kernel_rfl) (by kernel_rfl) ?_
                        repeat (go_big_quiet_step (fail))
                        refine wpQuiet_nil ?_
                        intro w6 hX6
                        go_wp2_with fail
                        go_meet
                        case rel => exact ⟨by rw [E1.out], hX6⟩
                      case rest =>
                        obtain ⟨rfl, hX6⟩ := hcut
                        have HB1 := Lib.hid (HB.out.grow hX6)
                        clear HB a1 a2 z1 z2 s1 s5 z3 z4
                        obtain ⟨w8, rfl⟩ : ∃ w8 : World, w8 = wc := ⟨_, rfl⟩
                        go_upto_if 151 with fail
                        have a2 := HB1.out.C.cellg hltj
                        rw [Hv.out] at a2
                        have z2 := HB1.out.C.slot.1
                        by_cases hcB : 0 < pp ∧ v2 < 1099511627776 ∧ v2 - cc < u2
                        · rw [decide_eq_true hcB]
                          have hz := HSy.out.1 hcB
                          have z1 := HB1.out.A.slot.1
                          have z3 := HB1.out.F.slot.1
                          have f1 := HB1.out.A.froz p
                          have c1 := HB1.out.A.cellg hltp
                          have HB2 := HB1.out.setA p (v2 - cc)
                          have f2 := HB2.F.froz p
                          have c2 := HB2.F.cellg hltp
                          have HB3 := HB2.setF p j
                          dsimp only at HB3 c2
                          rw [← hz, ← Hsucc.out] at HB3
                          have HB3 := Lib.hid HB3
                          clear HB2 hz hcB
                          generalize gi Z.ra p = q1 at *
                          generalize gi Z.rf p = q2 at *
                          go_wp2_with fail
                          go_roundg g2
                          case measure => omega
                          case rel => exact ⟨j + 1, by omega, by go_num, HB3⟩
                        · rw [decide_eq_false hcB]
                          have HB3 : Hid (Lab w w8 n m gR cR gL cL gA gF gC gD lr lc (relK (tg c) (tg P) m X (p * m + (j + 1)))) := Lib.hid (by rw [Hsucc.out, HSy.out.2 hcB]; exact HB1.out)
                          clear hcB
                          go_wp2_with fail
                          go_roundg g2
                          case measure => omega
                          case rel => exact ⟨j + 1, by omega, by go_num, HB3⟩
        have c1 := HB.out.R.cellg hlt
        have f1 := HB.out.F.froz k
        have c2 := HB.out.F.cellg hlt
        have z1 := HB.out.R.slot.1
        have z2 := HB.out.F.slot.1
        have HB2 := Lib.hid (HB.out.setF k (-1))
        have f2 := HB2.out.A.froz k
        have c3 := HB2.out.A.cellg hlt
        have z3 := HB.out.A.slot.1
        have hs : (⟨firstTo lr k, (fillL n k (-1)).set k (-1), fillL m 0 1099511627776, List.replicate m 0⟩ : NS) = ⟨firstTo lr k, fillL n (k + 1) (-1), fillL m 0 1099511627776, List.replicate m 0⟩ := by rw [fillL_set]
        dsimp only at HB2 c2 c3
        rw [hs] at HB2
        clear hs HLab
        by_cases h0 : gi lr k = 0
        · have d1 : (gi lr k == 0) = true := by simpa using h0
          have HB3 := HB2.out.setA k 1099511627776
          dsimp only at HB3
          rw [firstTo_far h0] at HB3
          have HB3 := Lib.hid HB3
          generalize gi lr k = x at *
          generalize gi (firstTo lr k) k = y at *
          generalize gi (fillL n k (-1)) k = z at *
          subst h0
          go_wp2_with fail
          go_roundw
          case rel => exact ⟨k + 1, by omega, by go_num, HB3⟩
          case measure => simp [intOf]; omega
        · have d1 : (gi lr k == 0) = false := by simpa using h0
          rw [← firstTo_near h0] at HB2
          generalize gi (firstTo lr k) k = y at *
          generalize gi (fillL n k (-1)) k = z at *
          have H0 := Lib.hid h0
          clear h0
          generalize gi lr k = x at *
          go_wp2_with fail
          go_roundw
          case rel => exact ⟨k + 1, by omega, by go_num, HB2⟩
          case measure => simp [intOf]; omega

end Go.Proofs.Ytbejgbflipoboaa.Tr
