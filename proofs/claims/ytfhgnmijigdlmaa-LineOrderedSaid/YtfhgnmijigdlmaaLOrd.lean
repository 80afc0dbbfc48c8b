/- The ordered transport, walked. -/
import Derived.Test.YtfhgnmijigdlmaaT19
import Derived.Test.YtfhgnmijigdlmaaT21
namespace Go.Proofs.Ytfhgnmijigdlmaa
open Go.RowKit
attribute [local go_sem] GW.cell
theorem ordV_len (a b : List Atom) : (ordV a b).length ≤ 12 := by
  unfold ordV
  split
  · next h => exact (ord_facts h).1
  · simp
set_option maxRecDepth 20000 in
set_option maxHeartbeats 16000000 in
theorem ordered_walk (w : World) (a1 : Option Addr) (n1 c1 : Nat) (l1 : List Atom) (hl1 : Atoms w a1 l1) (hn1 : l1.length = n1) (a2 : Option Addr) (n2 c2 : Nat) (l2 : List Atom) (hl2 : Atoms w a2 l2) (hn2 : l2.length = n2) :
    Calls Try.prog 14 #[.agg #[.slice a1 n1 c1, .slice a2 n2 c2]] w fun e w' => e = .returned (.bool true) ∧ Below w.heap.size w w' := by
  have hE0 := ext_alloc w (.cells #[.slice a1 n1 c1, .slice a2 n2 c2] 24)
  have HB := Lib.hid (BlkC.new w #[.slice a1 n1 c1, .slice a2 n2 c2] 24)
  have k0 := HB.out.cellv 0 (v := .slice a1 n1 c1) rfl
  have k1 := HB.out.cellv 1 (v := .slice a2 n2 c2) rfl
  cases hL : longB n1 n2
  case true =>
    clear hn1 hn2
    go_enter Try.func14, Try.ntmps14
    go_wp2_with fail
    generalize w.alloc (.cells #[.slice a1 n1 c1, .slice a2 n2 c2] 24) = w0 at *
    go_wp2_with fail
    refine (f18_c _ _ _ _ _ _ _).mono ?_
    rintro e w' ⟨rfl, rfl⟩
    rw [hL]
    go_wp2_with fail
    refine (f19_c _).mono ?_
    rintro e w9 ⟨rfl, hE9⟩
    go_wp2_with fail
    go_ret
    exact ⟨rfl, hE0.trans' hE9⟩

  obtain ⟨b1, b2⟩ := longB_no hL
  have C1 := fun W (h : Ext w W) => f33_c a1 a2 n1 c1 n2 c2 l1 l2 W (hl1.ext h) hn1 (by omega) (hl2.ext h) hn2 (by omega)
  have C2 := fun W (h : Ext w W) => f49_c a1 a2 n1 c1 n2 c2 l1 l2 W (hl1.ext h) hn1 (by omega) (hl2.ext h) hn2 (by omega)
  have hlen := ordV_len l1 l2
  have CS := Lib.hid (fun (a b : Option Addr) (c d' : Nat) (W : World) (hl : Moves W a (ordV l1 l2)) (hk : Moves W b (ordV l1 l2)) => f50_eq a b (ordV l1 l2).length c (ordV l1 l2).length d' (ordV l1 l2) W hl rfl (by omega) hk rfl)
  by_cases he : linePair l1 l2 = 0
  case neg =>
    have g2 : (linePair l1 l2 != 0) = true := by simp [he]
    have C1 := Lib.hid C1
    have C2 := Lib.hid C2
    clear he hn1 hn2
    generalize linePair l1 l2 = E1 at *
    generalize ordV l1 l2 = M at *
    go_enter Try.func14, Try.ntmps14
    go_wp2_with fail
    generalize w.alloc (.cells #[.slice a1 n1 c1, .slice a2 n2 c2] 24) = w0 at *
    go_wp2_with fail
    refine (f18_c _ _ _ _ _ _ _).mono ?_
    rintro e w' ⟨rfl, rfl⟩
    rw [hL]
    go_wp2_with fail
    refine (C1.out _ hE0).mono ?_
    rintro e w1 ⟨aM, cM, rfl, hM, hX1⟩
    have hE1 := hE0.trans' hX1
    have k0 := (HB.out.ext hX1).cellv 0 (v := .slice a1 n1 c1) rfl
    have k1 := (HB.out.ext hX1).cellv 1 (v := .slice a2 n2 c2) rfl
    have HM := Lib.hid hM
    clear hM
    go_wp2_with fail
    refine (C2.out _ hE1).mono ?_
    rintro e w2 ⟨aN, cN, rfl, hN, hX2⟩
    have hE2 := hE1.trans' hX2
    have hY2 := hX1.trans' hX2
    have k0 := (HB.out.ext hY2).cellv 0 (v := .slice a1 n1 c1) rfl
    have k1 := (HB.out.ext hY2).cellv 1 (v := .slice a2 n2 c2) rfl
    have HN := Lib.hid hN
    have HM2 := Lib.hid (HM.out.ext hX2)
    clear hN
    go_wp2_with fail
    refine (CS.out _ _ _ _ _ HM2.out HN.out).mono ?_
    rintro e w3 ⟨rfl, hX3⟩
    have hE3 := hE2.trans' hX3
    have HM3 := Lib.hid (HM2.out.ext hX3)
    have hY3 := hY2.trans' hX3
    have k0 := (HB.out.ext hY3).cellv 0 (v := .slice a1 n1 c1) rfl
    have k1 := (HB.out.ext hY3).cellv 1 (v := .slice a2 n2 c2) rfl
    go_wp2_with fail
    refine (f19_c _).mono ?_
    rintro e w9 ⟨rfl, hE9⟩
    go_wp2_with fail
    go_ret
    exact ⟨rfl, hE3.trans' hE9⟩
  obtain ⟨o1, o2, o3, o4, o5⟩ := ord_facts he
  have e1 : ordV l1 l2 = ordL l1 l2 := by unfold ordV; rw [if_pos he]
  have e2 : movesErr (ordV l1 l2) = 0 := by rw [e1]; exact (chkErr_ok o3).2.1
  have e3 : isOrdV (ordV l1 l2) = true := by unfold isOrdV; rw [e2, e1, o4]; rfl
  have e4 : chkErr l1 l2 (ordV l1 l2) = 0 := by rw [e1]; exact o3
  have C3 := fun (a : Option Addr) (c : Nat) (W : World) (h : Moves W a (ordV l1 l2)) => f51_c a (ordV l1 l2).length c (ordV l1 l2) W h rfl (by omega)
  have C4 := fun (a : Option Addr) (c : Nat) (W : World) (h : Moves W a (ordV l1 l2)) (h' : Ext w W) => f39_c a1 a2 a n1 c1 n2 c2 (ordV l1 l2).length c l1 l2 (ordV l1 l2) W (hl1.ext h') hn1 (by omega) (hl2.ext h') hn2 (by omega) h rfl (by omega)
  simp only [e2, e3] at C3
  simp only [e4] at C4
  rw [he] at C1 C2
  have C1 := Lib.hid C1
  have C2 := Lib.hid C2
  have C3 := Lib.hid C3
  have C4 := Lib.hid C4
  clear he hn1 hn2 o1 o2 o3 o4 o5 e1 e2 e3 e4
  generalize ordV l1 l2 = M at *
  go_enter Try.func14, Try.ntmps14
  go_wp2_with fail
  generalize w.alloc (.cells #[.slice a1 n1 c1, .slice a2 n2 c2] 24) = w0 at *
  go_wp2_with fail
  refine (f18_c _ _ _ _ _ _ _).mono ?_
  rintro e w' ⟨rfl, rfl⟩
  rw [hL]
  go_wp2_with fail
  refine (C1.out _ hE0).mono ?_
  rintro e w1 ⟨aM, cM, rfl, hM, hX1⟩
  have hE1 := hE0.trans' hX1
  have k0 := (HB.out.ext hX1).cellv 0 (v := .slice a1 n1 c1) rfl
  have k1 := (HB.out.ext hX1).cellv 1 (v := .slice a2 n2 c2) rfl
  have HM := Lib.hid hM
  clear hM
  go_wp2_with fail
  refine (C2.out _ hE1).mono ?_
  rintro e w2 ⟨aN, cN, rfl, hN, hX2⟩
  have hE2 := hE1.trans' hX2
  have hY2 := hX1.trans' hX2
  have k0 := (HB.out.ext hY2).cellv 0 (v := .slice a1 n1 c1) rfl
  have k1 := (HB.out.ext hY2).cellv 1 (v := .slice a2 n2 c2) rfl
  have HN := Lib.hid hN
  have HM2 := Lib.hid (HM.out.ext hX2)
  clear hN
  go_wp2_with fail
  refine (CS.out _ _ _ _ _ HM2.out HN.out).mono ?_
  rintro e w3 ⟨rfl, hX3⟩
  have hE3 := hE2.trans' hX3
  have HM3 := Lib.hid (HM2.out.ext hX3)
  have hY3 := hY2.trans' hX3
  have k0 := (HB.out.ext hY3).cellv 0 (v := .slice a1 n1 c1) rfl
  have k1 := (HB.out.ext hY3).cellv 1 (v := .slice a2 n2 c2) rfl
  go_wp2_with fail
  refine (C3.out _ _ _ HM3.out).mono ?_
  rintro e w4 ⟨rfl, hX4⟩
  have hE4 := hE3.trans' hX4
  have HM4 := Lib.hid (HM3.out.ext hX4)
  have hY4 := hY3.trans' hX4
  have k0 := (HB.out.ext hY4).cellv 0 (v := .slice a1 n1 c1) rfl
  have k1 := (HB.out.ext hY4).cellv 1 (v := .slice a2 n2 c2) rfl
  go_wp2_with fail
  refine (C4.out _ _ _ HM4.out hE4).mono ?_
  rintro e w5 ⟨rfl, hX5⟩
  have hE5 := hE4.trans' hX5
  go_wp2_with fail
  refine (f19_c _).mono ?_
  rintro e w9 ⟨rfl, hE9⟩
  go_wp2_with fail
  go_ret
  exact ⟨rfl, hE5.trans' hE9⟩

end Go.Proofs.Ytfhgnmijigdlmaa