/- Two loads together, walked. -/
import Derived.Test.YtfhgnmijigdlmaaT20
namespace Go.Proofs.Ytfhgnmijigdlmaa
open Go.RowKit
attribute [local go_sem] GW.cell
theorem join_law {a b : List Atom} (h : joinErr a b = 0) : valLoad (joinV a b) = 0 ∧ valLoad a = 0 ∧ valLoad b = 0 ∧ totV (joinV a b) = totV a + totV b := by
  obtain ⟨v1, v2, v3, v4⟩ := joinErr_ok h
  have e : joinV a b = joinL a b := by unfold joinV; rw [if_pos h]
  rw [e]
  refine ⟨v4, v1, v2, ?_⟩
  unfold totV
  rw [if_pos v4, if_pos v1, if_pos v2, join_total v1 v2]
theorem joinV_len (a b : List Atom) : (joinV a b).length ≤ 100 := by
  unfold joinV
  split
  · next h => have := (valLoad_in (joinErr_ok h).2.2.2).1; omega
  · simp
theorem totV_bd (l : List Atom) : 0 ≤ totV l ∧ totV l ≤ 180 := by
  unfold totV; split
  · next h => exact load_total h
  · omega
set_option maxRecDepth 20000 in
set_option maxHeartbeats 16000000 in
theorem joins_walk (w : World) (a1 : Option Addr) (n1 c1 : Nat) (l1 : List Atom) (hl1 : Atoms w a1 l1) (hn1 : l1.length = n1) (a2 : Option Addr) (n2 c2 : Nat) (l2 : List Atom) (hl2 : Atoms w a2 l2) (hn2 : l2.length = n2) :
    Calls Try.prog 6 #[.agg #[.slice a1 n1 c1, .slice a2 n2 c2]] w fun e w' => e = .returned (.bool true) ∧ Below w.heap.size w w' := by
  have hE0 := ext_alloc w (.cells #[.slice a1 n1 c1, .slice a2 n2 c2] 24)
  have HB := Lib.hid (BlkC.new w #[.slice a1 n1 c1, .slice a2 n2 c2] 24)
  have k0 := HB.out.cellv 0 (v := .slice a1 n1 c1) rfl
  have k1 := HB.out.cellv 1 (v := .slice a2 n2 c2) rfl
  cases hL : longB n1 n2
  case true =>
    clear hn1 hn2
    go_enter Try.func6, Try.ntmps6
    go_wp2_with fail
    generalize w.alloc (.cells #[.slice a1 n1 c1, .slice a2 n2 c2] 24) = w0 at *
    go_wp2_with fail
    refine (f18_c _ _ _ _ _ _ _).mono ?_
    rintro e w' ⟨rfl, rfl⟩
    rw [hL]
    go_wp2_with fail
    refine (f19_c _).mono ?_
    rintro e w9 ⟨rfl, hE9⟩
    go_wp2_with fail
    go_ret
    exact ⟨rfl, hE0.trans' hE9⟩

  obtain ⟨b1, b2⟩ := longB_no hL
  have C1 := fun W (h : Ext w W) => f28_c a1 a2 n1 c1 n2 c2 l1 l2 W (hl1.ext h) hn1 (by omega) (hl2.ext h) hn2 (by omega)
  have C2 := fun W (h : Ext w W) => f29_c a1 a2 n1 c1 n2 c2 l1 l2 W (hl1.ext h) hn1 (by omega) (hl2.ext h) hn2 (by omega)
  have C4 := fun W (h : Ext w W) => f31_c a1 n1 c1 l1 W (hl1.ext h) hn1 (by omega)
  have C5 := fun W (h : Ext w W) => f31_c a2 n2 c2 l2 W (hl2.ext h) hn2 (by omega)
  have lJ := joinV_len l1 l2
  have C3 := fun (a : Option Addr) (c : Nat) (W : World) (h : Atoms W a (joinV l1 l2)) => f31_c a (joinV l1 l2).length c (joinV l1 l2) W h rfl (by omega)
  have CS := Lib.hid (fun (a b : Option Addr) (n m c d' : Nat) (W : World) (l : List Atom) => fun (hl : Atoms W a l) (hk : Atoms W b l) (hn : l.length = n) (hm : l.length = m) (h1 : n ≤ 140737488355328) (h2 : m ≤ 140737488355328) => f30_c a b n m c d' l l W hl hk hn hm h1 h2)
  simp only [decide_true] at CS
  have t1 := totV_bd l1
  have t2 := totV_bd l2
  have C1 := Lib.hid C1
  have C2 := Lib.hid C2
  by_cases he : joinErr l1 l2 = 0
  case neg =>
    have g2 : (joinErr l1 l2 != 0) = true := by simp [he]
    have C3 := Lib.hid C3
    have C4 := Lib.hid C4
    have C5 := Lib.hid C5
    clear he hn1 hn2
    generalize valLoad (joinV l1 l2) = E3 at *
    generalize totV (joinV l1 l2) = V3 at *
    generalize valLoad l1 = E1 at *
    generalize totV l1 = V1 at *
    generalize valLoad l2 = E2 at *
    generalize totV l2 = V2 at *
    generalize joinErr l1 l2 = E0 at *
    generalize joinV l1 l2 = J at *
    go_enter Try.func6, Try.ntmps6
    go_wp2_with fail
    generalize w.alloc (.cells #[.slice a1 n1 c1, .slice a2 n2 c2] 24) = w0 at *
    go_wp2_with fail
    refine (f18_c _ _ _ _ _ _ _).mono ?_
    rintro e w' ⟨rfl, rfl⟩
    rw [hL]
    go_wp2_with fail
    refine (C1.out _ hE0).mono ?_
    rintro e w1 hR1
    obtain ⟨aJ, cJ, rfl, hJ1, hX1⟩ := hR1.open_
    have HJ1 := Lib.hid hJ1
    clear hR1 hJ1
    have hE1 := hE0.trans' hX1
    have k0 := (HB.out.ext hX1).cellv 0 (v := .slice a1 n1 c1) rfl
    have k1 := (HB.out.ext hX1).cellv 1 (v := .slice a2 n2 c2) rfl
    go_wp2_with fail
    refine (C2.out _ hE1).mono ?_
    rintro e w2 hR2
    obtain ⟨aK, cK, rfl, hJ2, hX2⟩ := hR2.open_
    have HJ2 := Lib.hid hJ2
    clear hR2 hJ2
    have hE2 := hE1.trans' hX2
    have hY2 := hX1.trans' hX2
    have k0 := (HB.out.ext hY2).cellv 0 (v := .slice a1 n1 c1) rfl
    have k1 := (HB.out.ext hY2).cellv 1 (v := .slice a2 n2 c2) rfl
    go_wp2_with fail
    refine (CS.out _ _ _ _ _ _ _ _ (HJ1.out.ext hX2) HJ2.out rfl rfl (by omega) (by omega)).mono ?_
    rintro e w3 ⟨rfl, hX3⟩
    have hE3 := hE2.trans' hX3
    have hY3 := hY2.trans' hX3
    have k0 := (HB.out.ext hY3).cellv 0 (v := .slice a1 n1 c1) rfl
    have k1 := (HB.out.ext hY3).cellv 1 (v := .slice a2 n2 c2) rfl
    go_wp2_with fail
    refine (C3.out _ _ _ (HJ1.out.ext (hX2.trans' hX3))).mono ?_
    rintro e w4 ⟨rfl, hX4⟩
    have hE4 := hE3.trans' hX4
    have hY4 := hY3.trans' hX4
    have k0 := (HB.out.ext hY4).cellv 0 (v := .slice a1 n1 c1) rfl
    have k1 := (HB.out.ext hY4).cellv 1 (v := .slice a2 n2 c2) rfl
    go_wp2_with fail
    refine (C4.out _ hE4).mono ?_
    rintro e w5 ⟨rfl, hX5⟩
    have hE5 := hE4.trans' hX5
    have hY5 := hY4.trans' hX5
    have k0 := (HB.out.ext hY5).cellv 0 (v := .slice a1 n1 c1) rfl
    have k1 := (HB.out.ext hY5).cellv 1 (v := .slice a2 n2 c2) rfl
    go_wp2_with fail
    refine (C5.out _ hE5).mono ?_
    rintro e w6 ⟨rfl, hX6⟩
    have hE6 := hE5.trans' hX6
    go_wp2_with fail
    refine (f19_c _).mono ?_
    rintro e w9 ⟨rfl, hE9⟩
    go_wp2_with fail
    go_ret
    exact ⟨rfl, hE6.trans' hE9⟩

  obtain ⟨g1, g2, g3, g4⟩ := join_law he
  rw [g1, g4] at C3
  rw [g2] at C4
  rw [g3] at C5
  have C3 := Lib.hid C3
  have C4 := Lib.hid C4
  have C5 := Lib.hid C5
  have C1 := Lib.hid (by have h := C1.out; rw [he] at h; exact h)
  have C2 := Lib.hid (by have h := C2.out; rw [he] at h; exact h)
  clear he hn1 hn2 g1 g2 g3 g4
  generalize totV l1 = V1 at *
  generalize totV l2 = V2 at *
  generalize joinV l1 l2 = J at *
  go_enter Try.func6, Try.ntmps6
  go_wp2_with fail
  generalize w.alloc (.cells #[.slice a1 n1 c1, .slice a2 n2 c2] 24) = w0 at *
  go_wp2_with fail
  refine (f18_c _ _ _ _ _ _ _).mono ?_
  rintro e w' ⟨rfl, rfl⟩
  rw [hL]
  go_wp2_with fail
  refine (C1.out _ hE0).mono ?_
  rintro e w1 hR1
  obtain ⟨aJ, cJ, rfl, hJ1, hX1⟩ := hR1.open_
  have HJ1 := Lib.hid hJ1
  clear hR1 hJ1
  have hE1 := hE0.trans' hX1
  have k0 := (HB.out.ext hX1).cellv 0 (v := .slice a1 n1 c1) rfl
  have k1 := (HB.out.ext hX1).cellv 1 (v := .slice a2 n2 c2) rfl
  go_wp2_with fail
  refine (C2.out _ hE1).mono ?_
  rintro e w2 hR2
  obtain ⟨aK, cK, rfl, hJ2, hX2⟩ := hR2.open_
  have HJ2 := Lib.hid hJ2
  clear hR2 hJ2
  have hE2 := hE1.trans' hX2
  have hY2 := hX1.trans' hX2
  have k0 := (HB.out.ext hY2).cellv 0 (v := .slice a1 n1 c1) rfl
  have k1 := (HB.out.ext hY2).cellv 1 (v := .slice a2 n2 c2) rfl
  go_wp2_with fail
  refine (CS.out _ _ _ _ _ _ _ _ (HJ1.out.ext hX2) HJ2.out rfl rfl (by omega) (by omega)).mono ?_
  rintro e w3 ⟨rfl, hX3⟩
  have hE3 := hE2.trans' hX3
  have hY3 := hY2.trans' hX3
  have k0 := (HB.out.ext hY3).cellv 0 (v := .slice a1 n1 c1) rfl
  have k1 := (HB.out.ext hY3).cellv 1 (v := .slice a2 n2 c2) rfl
  go_wp2_with fail
  refine (C3.out _ _ _ (HJ1.out.ext (hX2.trans' hX3))).mono ?_
  rintro e w4 ⟨rfl, hX4⟩
  have hE4 := hE3.trans' hX4
  have hY4 := hY3.trans' hX4
  have k0 := (HB.out.ext hY4).cellv 0 (v := .slice a1 n1 c1) rfl
  have k1 := (HB.out.ext hY4).cellv 1 (v := .slice a2 n2 c2) rfl
  go_wp2_with fail
  refine (C4.out _ hE4).mono ?_
  rintro e w5 ⟨rfl, hX5⟩
  have hE5 := hE4.trans' hX5
  have hY5 := hY4.trans' hX5
  have k0 := (HB.out.ext hY5).cellv 0 (v := .slice a1 n1 c1) rfl
  have k1 := (HB.out.ext hY5).cellv 1 (v := .slice a2 n2 c2) rfl
  go_wp2_with fail
  refine (C5.out _ hE5).mono ?_
  rintro e w6 ⟨rfl, hX6⟩
  have hE6 := hE5.trans' hX6
  go_wp2_with fail
  refine (f19_c _).mono ?_
  rintro e w9 ⟨rfl, hE9⟩
  go_wp2_with fail
  go_ret
  exact ⟨rfl, hE6.trans' hE9⟩

end Go.Proofs.Ytfhgnmijigdlmaa