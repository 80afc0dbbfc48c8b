/- The smallest costs, walked. -/
import Derived.Test.YtfhgnmijigdlmaaT13
namespace Go.Proofs.Ytfhgnmijigdlmaa
open Go.RowKit
attribute [local go_sem] GW.cell
set_option maxRecDepth 20000 in
set_option maxHeartbeats 8000000 in
theorem least_walk (w : World) (a1 : Option Addr) (n1 c1 : Nat) (l1 : List Atom) (hl1 : Atoms w a1 l1) (hn1 : l1.length = n1) (a2 : Option Addr) (n2 c2 : Nat) (l2 : List Atom) (hl2 : Atoms w a2 l2) (hn2 : l2.length = n2) (k : Int) :
    Calls Try.prog 7 #[.agg #[.slice a1 n1 c1, .slice a2 n2 c2], .int .i64 k] w fun e w' => e = .returned (.bool true) ∧ Below w.heap.size w w' := by
  have hE0 := ext_alloc w (.cells #[.slice a1 n1 c1, .slice a2 n2 c2] 24)
  have HB := Lib.hid (BlkC.new w #[.slice a1 n1 c1, .slice a2 n2 c2] 24)
  have k0 := HB.out.cellv 0 (v := .slice a1 n1 c1) rfl
  have k1 := HB.out.cellv 1 (v := .slice a2 n2 c2) rfl
  cases hL : longB n1 n2
  case true =>
    clear hn1 hn2
    go_enter Try.func7, Try.ntmps7
    go_wp2_with fail
    generalize w.alloc (.cells #[.slice a1 n1 c1, .slice a2 n2 c2] 24) = w0 at *
    go_wp2_with fail
    refine (f18_c _ _ _ _ _ _ _).mono ?_
    rintro e w' ⟨rfl, rfl⟩
    rw [hL]
    go_wp2_with fail
    refine (f19_c _).mono ?_
    rintro e w9 ⟨rfl, hE9⟩
    go_wp2_with fail
    go_ret
    exact ⟨rfl, hE0.trans' hE9⟩

  obtain ⟨b1, b2⟩ := longB_no hL
  have C1 := fun W (h : Ext w W) => f20_c a1 a2 n1 c1 n2 c2 l1 l2 k W (hl1.ext h) hn1 (by omega) (hl2.ext h) hn2 (by omega)
  have C2 := fun W (h : Ext w W) => f32_c a1 a2 n1 c1 n2 c2 l1 l2 k W (hl1.ext h) hn1 (by omega) (hl2.ext h) hn2 (by omega)
  by_cases he : leastErr l1 l2 k = 0
  case neg =>
    have g2 : (leastErr l1 l2 k != 0) = true := by simp [he]
    have C1 := Lib.hid C1
    have C2 := Lib.hid C2
    clear he hn1 hn2
    generalize leastErr l1 l2 k = E1 at *
    generalize leastV l1 l2 k = V1 at *
    go_enter Try.func7, Try.ntmps7
    go_wp2_with fail
    generalize w.alloc (.cells #[.slice a1 n1 c1, .slice a2 n2 c2] 24) = w0 at *
    go_wp2_with fail
    refine (f18_c _ _ _ _ _ _ _).mono ?_
    rintro e w' ⟨rfl, rfl⟩
    rw [hL]
    go_wp2_with fail
    refine (C1.out _ hE0).mono ?_
    rintro e w1 ⟨rfl, hX1⟩
    have hE1 := hE0.trans' hX1
    have k0 := (HB.out.ext hX1).cellv 0 (v := .slice a1 n1 c1) rfl
    have k1 := (HB.out.ext hX1).cellv 1 (v := .slice a2 n2 c2) rfl
    go_wp2_with fail
    refine (C2.out _ hE1).mono ?_
    rintro e w2 ⟨rfl, hX2⟩
    have hE2 := hE1.trans' hX2
    have hY2 := hX1.trans' hX2
    have k0 := (HB.out.ext hY2).cellv 0 (v := .slice a1 n1 c1) rfl
    have k1 := (HB.out.ext hY2).cellv 1 (v := .slice a2 n2 c2) rfl
    go_wp2_with fail
    refine (f19_c _).mono ?_
    rintro e w9 ⟨rfl, hE9⟩
    go_wp2_with fail
    go_ret
    exact ⟨rfl, hE2.trans' hE9⟩
  obtain ⟨p1, p2⟩ := leastErr_ok he
  have C3 := fun W (h : Ext w W) => f33_c a1 a2 n1 c1 n2 c2 l1 l2 W (hl1.ext h) hn1 (by omega) (hl2.ext h) hn2 (by omega)
  obtain ⟨o1, o2, o3, o4, o5⟩ := ord_facts p1
  have e1 : ordV l1 l2 = ordL l1 l2 := by unfold ordV; rw [if_pos p1]
  have e2 : movesErr (ordL l1 l2) = 0 := (chkErr_ok o3).2.1
  have e3 : costErr (ordL l1 l2) k = 0 := by unfold costErr; rw [if_neg (by simpa using e2), if_pos p2]
  have e4 : costV (ordL l1 l2) k = leastV l1 l2 k := by unfold costV leastV; rw [if_pos e3, if_pos he, o5]
  rw [e1, p1] at C3
  rw [he] at C1 C2
  have C4 := fun (a : Option Addr) (c : Nat) (W : World) (h : Moves W a (ordL l1 l2)) => f34_c a (ordL l1 l2).length c (ordL l1 l2) k W h rfl (by omega)
  simp only [e3, e4] at C4
  have C1 := Lib.hid C1
  have C2 := Lib.hid C2
  have C3 := Lib.hid C3
  have C4 := Lib.hid C4
  clear he hn1 hn2 p1 p2 o1 o2 o3 o4 o5 e1 e2 e3 e4
  generalize ordL l1 l2 = M at *
  generalize leastV l1 l2 k = V1 at *
  go_enter Try.func7, Try.ntmps7
  go_wp2_with fail
  generalize w.alloc (.cells #[.slice a1 n1 c1, .slice a2 n2 c2] 24) = w0 at *
  go_wp2_with fail
  refine (f18_c _ _ _ _ _ _ _).mono ?_
  rintro e w' ⟨rfl, rfl⟩
  rw [hL]
  go_wp2_with fail
  refine (C1.out _ hE0).mono ?_
  rintro e w1 ⟨rfl, hX1⟩
  have hE1 := hE0.trans' hX1
  have k0 := (HB.out.ext hX1).cellv 0 (v := .slice a1 n1 c1) rfl
  have k1 := (HB.out.ext hX1).cellv 1 (v := .slice a2 n2 c2) rfl
  go_wp2_with fail
  refine (C2.out _ hE1).mono ?_
  rintro e w2 ⟨rfl, hX2⟩
  have hE2 := hE1.trans' hX2
  have hY2 := hX1.trans' hX2
  have k0 := (HB.out.ext hY2).cellv 0 (v := .slice a1 n1 c1) rfl
  have k1 := (HB.out.ext hY2).cellv 1 (v := .slice a2 n2 c2) rfl
  go_wp2_with fail
  refine (C3.out _ hE2).mono ?_
  rintro e w3 ⟨aM, cM, rfl, hM, hX3⟩
  have hE3 := hE2.trans' hX3
  have hY3 := hY2.trans' hX3
  have k0 := (HB.out.ext hY3).cellv 0 (v := .slice a1 n1 c1) rfl
  have k1 := (HB.out.ext hY3).cellv 1 (v := .slice a2 n2 c2) rfl
  have HM := Lib.hid hM
  clear hM
  go_wp2_with fail
  refine (C4.out _ _ _ HM.out).mono ?_
  rintro e w4 ⟨rfl, hX4⟩
  have hE4 := hE3.trans' hX4
  go_wp2_with fail
  refine (f19_c _).mono ?_
  rintro e w9 ⟨rfl, hE9⟩
  go_wp2_with fail
  go_ret
  exact ⟨rfl, hE4.trans' hE9⟩

end Go.Proofs.Ytfhgnmijigdlmaa