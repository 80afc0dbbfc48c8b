/- Contracts of mass and price, where all fits: ends, CheckPlan, Cost. -/
import Derived.Deep.Cut
import Derived.Deep.CutRange
import Derived.Deep.DeepCutAuto
import Derived.Deep.RegionWith
import Derived.Deep.RegionHeld3
import Derived.RegionTactic
import Derived.BigRegion
import Derived.Test.YtfhgnmijigdlmaaU3
namespace Go.Proofs.Ytfhgnmijigdlmaa.Tr
open Go.RowKit
attribute [local go_sem] GW.cell
/-- the sums of the rows, of the columns, after k rows of the plan and q places of the next one -/
def endRt (n : Nat) (P : Tbl) (m k q : Nat) : List Int := (List.range n).map fun i => (if i < k then sumN (tg P i) m else if i = k then sumN (tg P i) q else 0)
def endCt (m : Nat) (P : Tbl) (k q : Nat) : List Int := (List.range m).map fun j => sumN (fun i => tg P i j) (if j < q then k + 1 else k)
theorem endRt_len (n : Nat) (P : Tbl) (m k q : Nat) : (endRt n P m k q).length = n := by simp [endRt]
theorem endCt_len (m : Nat) (P : Tbl) (k q : Nat) : (endCt m P k q).length = m := by simp [endCt]
theorem endRt_zero (n : Nat) (P : Tbl) (m : Nat) : endRt n P m 0 0 = List.replicate n 0 := by
  apply List.ext_getElem (by simp [endRt])
  intro i h1 h2
  simp only [endRt, List.getElem_map, List.getElem_range, List.getElem_replicate]
  rw [if_neg (by omega)]
  split <;> simp [sumN]
theorem endCt_zero (m : Nat) (P : Tbl) : endCt m P 0 0 = List.replicate m 0 := by
  apply List.ext_getElem (by simp [endCt])
  intro i h1 h2
  simp only [endCt, List.getElem_map, List.getElem_range, List.getElem_replicate]
  rw [if_neg (by omega)]
  simp [sumN]
theorem gi_endRt {n : Nat} {P : Tbl} {m k q : Nat} (h : k < n) : gi (endRt n P m k q) k = sumN (tg P k) q := by
  rw [gi_get (by rw [endRt_len]; exact h)]
  simp only [endRt, List.getElem_map, List.getElem_range]
  rw [if_neg (by omega), if_pos trivial]
theorem gi_endCt {m : Nat} {P : Tbl} {k q : Nat} (h : q < m) : gi (endCt m P k q) q = sumN (fun i => tg P i q) k := by
  rw [gi_get (by rw [endCt_len]; exact h)]
  simp only [endCt, List.getElem_map, List.getElem_range]
  rw [if_neg (by omega)]
theorem endRt_set {n : Nat} {P : Tbl} {m k q : Nat} : (endRt n P m k q).set k (sumN (tg P k) q + tg P k q) = endRt n P m k (q + 1) := by
  apply List.ext_getElem (by simp [endRt])
  intro i h1 h2
  rw [List.getElem_set]
  simp only [endRt, List.getElem_map, List.getElem_range]
  by_cases e : k = i
  · subst e; rw [if_pos rfl, if_neg (by omega), if_pos rfl]; simp only [sumN]
  · rw [if_neg e]
    by_cases h : i < k
    · rw [if_pos h, if_pos h]
    · rw [if_neg h, if_neg h, if_neg (fun h => e h.symm), if_neg (fun h => e h.symm)]
theorem endCt_set {m : Nat} {P : Tbl} {k q : Nat} : (endCt m P k q).set q (sumN (fun i => tg P i q) k + tg P k q) = endCt m P k (q + 1) := by
  apply List.ext_getElem (by simp [endCt])
  intro i h1 h2
  rw [List.getElem_set]
  simp only [endCt, List.getElem_map, List.getElem_range]
  by_cases e : q = i
  · subst e; rw [if_pos rfl, if_pos (by omega)]; simp only [sumN]
  · rw [if_neg e]
    by_cases h : i < q
    · rw [if_pos h, if_pos (by omega)]
    · rw [if_neg h, if_neg (by omega)]
theorem endRt_row (n : Nat) (P : Tbl) (m k : Nat) : endRt n P m k m = endRt n P m (k + 1) 0 := by
  unfold endRt
  apply List.map_congr_left
  intro i _
  by_cases h : i < k
  · rw [if_pos h, if_pos (by omega)]
  · rw [if_neg h]
    by_cases e : i = k
    · rw [if_pos e, if_pos (by omega), e]
    · rw [if_neg e, if_neg (by omega)]
      split <;> simp [sumN]
theorem endCt_row {P : Tbl} {m k : Nat} : endCt m P k m = endCt m P (k + 1) 0 := by
  unfold endCt
  apply List.map_congr_left
  intro i hi
  rw [List.mem_range] at hi
  rw [if_pos (by omega), if_neg (by omega)]
def endR (n : Nat) (P : Tbl) (m : Nat) : List Int := endRt n P m n 0
def endC (m : Nat) (P : Tbl) (n : Nat) : List Int := endCt m P n 0
theorem endR_at {n m : Nat} {P : Tbl} {i : Nat} (h : i < n) : gi (endR n P m) i = sumN (tg P i) m := by
  unfold endR
  rw [gi_get (by rw [endRt_len]; exact h)]
  simp only [endRt, List.getElem_map, List.getElem_range]
  rw [if_pos h]
theorem endC_at {n m : Nat} {P : Tbl} {j : Nat} (h : j < m) : gi (endC m P n) j = sumN (fun i => tg P i j) n := by
  unfold endC
  rw [gi_get (by rw [endCt_len]; exact h)]
  simp only [endCt, List.getElem_map, List.getElem_range]
  rw [if_neg (by omega)]
theorem sumN_up {f : Nat → Int} {K : Int} : ∀ {n : Nat}, (∀ i, i < n → 0 ≤ f i ∧ f i ≤ K) → 0 ≤ sumN f n ∧ sumN f n ≤ n * K
  | 0, _ => by simp [sumN]
  | n + 1, h => by
    have h1 := sumN_up (n := n) (fun i hi => h i (by omega))
    have h2 := h n (by omega)
    have e : ((n + 1 : Nat) : Int) * K = n * K + K := by rw [show ((n + 1 : Nat) : Int) = (n : Int) + 1 by omega, Int.add_mul, Int.one_mul]
    simp only [sumN]; omega
theorem list_ext {l k : List Int} {n : Nat} (h1 : l.length = n) (h2 : k.length = n) (h : ∀ i, i < n → gi l i = gi k i) : l = k := by
  apply List.ext_getElem (by omega)
  intro i h3 h4
  have := h i (by omega)
  rwa [gi_get h3, gi_get h4] at this
/-- what ends hands back -/
def RetEnds (P : Tbl) (n m : Nat) (w : World) (e : Ending) (w' : World) : Prop :=
  ∃ gR gC, e = .returned (.tuple #[.slice (some ⟨gR, 0, none⟩) n n, .slice (some ⟨gC, 0, none⟩) m m]) ∧ Ints w' (some ⟨gR, 0, none⟩) (endR n P m) ∧ Ints w' (some ⟨gC, 0, none⟩) (endC m P n) ∧ Ext w w'
set_option maxRecDepth 20000 in
set_option maxHeartbeats 8000000 in
theorem f106_c (pa : Option Addr) (n m cp : Nat) (P : Tbl) (w : World) (hp : Table w pa P) (hT : TOk n m 0 150 P) :
    Calls Try.prog 106 #[.slice pa n cp] w (RetEnds P n m w) := by
  obtain ⟨i0, hi0⟩ := infoI
  have Hi := Lib.hid hi0
  clear hi0
  have hn1 := hT.n1
  have hn5 := hT.n5
  have hm1 := hT.m1
  have hm5 := hT.m5
  obtain ⟨b3, o3, a3, c3, rfl, hb3, hc3, -⟩ := hp 0 (by rw [hT.len]; omega)
  have e0 : P[0]'(by rw [hT.len]; omega) = row P 0 := (row_at _).symm
  rw [e0, hT.cols 0 (by omega)] at hc3
  simp only [Nat.add_zero] at hc3
  have h0n : 0 < n := hn1
  have HP := Lib.hid hp
  have HT := Lib.hid hT
  clear e0 hT hp
  unfold RetEnds
  go_enter Try.func106, Try.ntmps106
  go_upto_region 1 with fail
  go_cut [4, 5] from 10 to 17 (fun v4 v5 wx => ∃ gA gB, v4 = .slice (some ⟨gA, 0, none⟩) n n ∧ v5 = .slice (some ⟨gB, 0, none⟩) m m ∧ Hid (OwnG wx 3 w.heap.size gA n n (List.replicate n 0)) ∧ Hid (OwnG wx 3 w.heap.size gB m m (List.replicate m 0)) ∧ gA ≠ gB ∧ Ext w wx)
  case first =>
    go_region_held3 (fun w' => w'.cell? ⟨b3, o3, none⟩ = some (.slice a3 m c3)) (first | assumption | go_keep)
      (first
        | (refine upon_make w.heap.size 3 i0 (.int .i64 0) 1 Try.underlying31 Hi.out.1 Hi.out.2.1 Hi.out.2.2.1 (by rw [Hi.out.2.2.2]; omega) (by unfold maxLen; omega) (by first | exact hXm.size | exact (ext_drew _).size) ?_
           intro wm hom hgrow
           first
             | (have hXn : Ext wo1 wm := (Below.refl _ _).grown hgrow (Nat.le_refl _) (by simp)
                have hXk := hXm.trans' hXn
                have gm2 := (hXk.cell' hb3).trans hc3)
             | (have hXm : Ext w wm := (ext_drew _).trans' ((Below.refl _ _).grown hgrow (Nat.le_refl _) (by simp))
                obtain ⟨wo1, hwo1⟩ : ∃ wo1 : World, wo1 = wm := ⟨_, rfl⟩
                subst hwo1
                have hom1 := hom
                clear hom
                have gm1 := (hXm.cell' hb3).trans hc3)))
    all_goals
      have hF := (made_own hom1).ext hXn
      have hF2 := made_own hom
      have hF3 := (made_own hom1).slot
    · go_wp2_with fail
      go_meet
      case rel => exact ⟨_, _, rfl, rfl, Lib.hid hF, Lib.hid (hF2.base (by first | exact hXm.size | omega)), by simp at hF3 ⊢; omega, hXk⟩
    · go_wp2_with fail
      go_meet
      case rel => exact ⟨_, _, rfl, rfl, Lib.hid (hF2.base (by first | exact hXm.size | omega)), Lib.hid hF, by simp at hF3 ⊢; omega, hXk⟩
  case rest =>
    obtain ⟨g8, g9, rfl, rfl, HA, HC0, hne, hX⟩ := hcut
    go_wp2_with fail
    go_loopw [6, 7, 8, 9, 20] (fun _ _ _ _ i wr => ∃ k : Nat, k ≤ n ∧ i = .int .i64 k ∧ Ext w wr ∧ Hid (OwnG wr 3 w.heap.size g8 n n (endRt n P m k 0)) ∧ Hid (OwnG wr 3 w.heap.size g9 m m (endCt m P k 0))) (fun _ _ _ _ i _ => n - (intOf i).toNat)
    case atStart => exact ⟨0, Nat.zero_le _, rfl, hX, by rw [endRt_zero]; exact HA, by rw [endCt_zero]; exact HC0⟩
    case round =>
      obtain ⟨k, hk, rfl, hE, HR, HC⟩ := hrel
      by_cases hlt : k < n
      case neg =>
        obtain rfl : k = n := by omega
        have Hf := Lib.hid (show RetEnds P k m w (.returned (.tuple #[.slice (some ⟨g8, 0, none⟩) k k, .slice (some ⟨g9, 0, none⟩) m m])) wr from ⟨g8, g9, rfl, HR.out.ints, HC.out.ints, hE⟩)
        unfold RetEnds at Hf
        go_wp2_with fail
        go_ret2
        exact Hf.out
      have hkt : k < P.length := by rw [HT.out.len]; exact hlt
      obtain ⟨b4, o4, a4, c4, e4, hb4, hcw, hIw⟩ := HP.out k hkt
      simp only [Option.some.injEq, Addr.mk.injEq, and_true] at e4
      obtain ⟨rfl, rfl⟩ := e4
      have hmk := HT.out.cols k hlt
      rw [← row_at hkt] at hcw hIw
      rw [hmk] at hcw
      have hc4 := (hE.cell' hb4).trans hcw
      have hz4 := Nat.lt_of_lt_of_le hb4 hE.size
      have Hm := Lib.hid hmk
      have HIw := Lib.hid hIw
      clear hcw hmk hkt hIw
      go_wp2_with fail
      go_loopw [8, 9, 27] (fun _ _ i wr => ∃ q : Nat, q ≤ m ∧ i = .int .i64 q ∧ Ext w wr ∧ Hid (OwnG wr 3 w.heap.size g8 n n (endRt n P m k q)) ∧ Hid (OwnG wr 3 w.heap.size g9 m m (endCt m P k q))) (fun _ _ i _ => m - (intOf i).toNat)
      case atStart => exact ⟨0, Nat.zero_le _, rfl, hE, HR, HC⟩
      case round =>
        obtain ⟨q, hq, rfl, hE3, HR, HC⟩ := hrel
        by_cases hlq : q < m
        case neg =>
          obtain rfl : q = m := by omega
          rw [endRt_row] at HR
          rw [endCt_row] at HC
          go_wp2_with fail
          go_roundw
          case rel => exact ⟨k + 1, by omega, by go_num, hE3, HR, HC⟩
          case measure => simp [intOf]; omega
        obtain ⟨b5, o5, rfl, hb5, hc5⟩ := HIw.out.ext hE3 q (by rw [Hm.out]; exact hlq)
        rw [← gi_at] at hc5
        have hx := HT.out.bd k q hlt hlq
        unfold tg at hx
        have r1 := HR.out.cell (i := k) (by rw [endRt_len]; exact hlt)
        rw [← gi_at, gi_endRt hlt] at r1
        have r2 := HR.out.froz k
        have r3 := HR.out.slot
        have s3 := HC.out.slot
        have y1 := sumN_up (f := tg P k) (K := 150) (n := q) (fun i hi => HT.out.bd k i hlt (by omega))
        have y2 := sumN_up (f := fun i => tg P i q) (K := 150) (n := k) (fun i hi => HT.out.bd i q (by omega) hlq)
        have HR2 := (HR.out.store k (sumN (tg P k) q + tg P k q)).other (g' := g9) (by omega) q (.int .i64 (sumN (fun i => tg P i q) k + tg P k q))
        have HC2 := (HC.out.other (g' := g8) (by omega) k (.int .i64 (sumN (tg P k) q + tg P k q))).store q (sumN (fun i => tg P i q) k + tg P k q)
        rw [endRt_set] at HR2
        rw [endCt_set] at HC2
        have s4 := (HC.out.other (g' := g8) (by omega) k (.int .i64 (sumN (tg P k) q + tg P k q))).cell (i := q) (by rw [endCt_len]; exact hlq)
        rw [← gi_at, gi_endCt hlq] at s4
        have s5 := (HC.out.other (g' := g8) (by omega) k (.int .i64 (sumN (tg P k) q + tg P k q))).froz q
        have hE4 : Ext w _ := (hE3.setCell (p := ⟨g8, k, none⟩) r3.2.2 (.int .i64 (sumN (tg P k) q + tg P k q))).setCell (p := ⟨g9, q, none⟩) s3.2.2 (.int .i64 (sumN (fun i => tg P i q) k + tg P k q))
        have HR2 := Lib.hid HR2
        have HC2 := Lib.hid HC2
        rw [show gi (row P k) q = tg P k q from rfl] at hc5 hx
        clear HR HC
        generalize tg P k q = x at *
        generalize sumN (tg P k) q = u at *
        generalize sumN (fun i => tg P i q) k = v at *
        go_wp2_with fail
        go_roundw
        case rel => exact ⟨q + 1, by omega, by go_num, hE4, HR2, HC2⟩
        case measure => simp [intOf]; omega
end Go.Proofs.Ytfhgnmijigdlmaa.Tr
