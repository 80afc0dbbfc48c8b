/- The law of the triangle, walked. -/
import Derived.Test.YtfhgnmijigdlmaaT10
namespace Go.Proofs.Ytfhgnmijigdlmaa
open Go.RowKit
attribute [local go_sem] GW.cell
theorem least_symm {a b : List Atom} {k : Int} (h : leastErr a b k = 0) : leastErr b a k = 0 ∧ leastV b a k = leastV a b k := by
  obtain ⟨h1, h2⟩ := leastErr_ok h
  obtain ⟨g1, g2, g3⟩ := linePair_ok h1
  have h3 : linePair b a = 0 := by unfold linePair bothErr; simp [g1, g2, g3]
  have e := leastErr_mk h3 h2
  refine ⟨e, ?_⟩
  unfold leastV
  rw [if_pos h, if_pos e]
  unfold apartL
  rw [pair_len h3, apartTo_symm]
theorem least_tri {a b c : List Atom} (h1 : leastErr a b 1 = 0) (h2 : leastErr b c 1 = 0) : leastErr a c 1 = 0 ∧ leastV a c 1 ≤ leastV a b 1 + leastV b c 1 := by
  obtain ⟨p1, q1⟩ := leastErr_ok h1
  obtain ⟨p2, q2⟩ := leastErr_ok h2
  obtain ⟨g1, g2, g3⟩ := linePair_ok p1
  obtain ⟨g4, g5, g6⟩ := linePair_ok p2
  have h3 : linePair a c = 0 := by unfold linePair bothErr; simp [g1, g5, g3, g6]
  have e := leastErr_mk h3 q1
  refine ⟨e, ?_⟩
  unfold leastV
  rw [if_pos h1, if_pos h2, if_pos e]
  unfold apartL
  rw [← pair_len p1]
  exact apartTo_tri _ _ _ _
theorem leastV_bd (a b : List Atom) (k : Int) : 0 ≤ leastV a b k ∧ leastV a b k ≤ 3000000000000 := by
  unfold leastV
  split
  · next h => exact apartL_bd (leastErr_ok h).1 k
  · omega
set_option maxRecDepth 20000 in
set_option maxHeartbeats 8000000 in
theorem triangles_walk (w : World) (a1 : Option Addr) (n1 c1 : Nat) (l1 : List Atom) (hl1 : Atoms w a1 l1) (hn1 : l1.length = n1) (a2 : Option Addr) (n2 c2 : Nat) (l2 : List Atom) (hl2 : Atoms w a2 l2) (hn2 : l2.length = n2) (a3 : Option Addr) (n3 c3 : Nat) (l3 : List Atom) (hl3 : Atoms w a3 l3) (hn3 : l3.length = n3) :
    Calls Try.prog 3 #[.agg #[.slice a1 n1 c1, .slice a2 n2 c2], .slice a3 n3 c3] w fun e w' => e = .returned (.bool true) ∧ Below w.heap.size w w' := by
  have hE0 := ext_alloc w (.cells #[.slice a1 n1 c1, .slice a2 n2 c2] 24)
  have HB := Lib.hid (BlkC.new w #[.slice a1 n1 c1, .slice a2 n2 c2] 24)
  have k0 := HB.out.cellv 0 (v := .slice a1 n1 c1) rfl
  have k1 := HB.out.cellv 1 (v := .slice a2 n2 c2) rfl
  cases hL : longB n1 n2
  case true =>
    clear hn1 hn2 hn3
    go_enter Try.func3, Try.ntmps3
    go_wp2_with fail
    generalize w.alloc (.cells #[.slice a1 n1 c1, .slice a2 n2 c2] 24) = w0 at *
    go_wp2_with fail
    refine (f18_c _ _ _ _ _ _ _).mono ?_
    rintro e w' ⟨rfl, rfl⟩
    rw [hL]
    go_wp2_with fail
    refine (f19_c _).mono ?_
    rintro e w9 ⟨rfl, hE9⟩
    go_wp2_with fail
    go_ret
    exact ⟨rfl, hE0.trans' hE9⟩

  obtain ⟨b1, b2⟩ := longB_no hL
  by_cases h3 : 100 < n3
  · have d3 : decide (100 < (n3 : Int)) = true := by simp; omega
    clear hn1 hn2 hn3
    go_enter Try.func3, Try.ntmps3
    go_wp2_with fail
    generalize w.alloc (.cells #[.slice a1 n1 c1, .slice a2 n2 c2] 24) = w0 at *
    go_wp2_with fail
    refine (f18_c _ _ _ _ _ _ _).mono ?_
    rintro e w' ⟨rfl, rfl⟩
    rw [hL]
    go_wp2_with fail
    refine (f19_c _).mono ?_
    rintro e w9 ⟨rfl, hE9⟩
    go_wp2_with fail
    go_ret
    exact ⟨rfl, hE0.trans' hE9⟩

  have d3 : decide (100 < (n3 : Int)) = false := by simp; omega
  have C1 := fun W (h : Ext w W) => f20_c a1 a2 n1 c1 n2 c2 l1 l2 1 W (hl1.ext h) hn1 (by omega) (hl2.ext h) hn2 (by omega)
  have C2 := fun W (h : Ext w W) => f20_c a2 a3 n2 c2 n3 c3 l2 l3 1 W (hl2.ext h) hn2 (by omega) (hl3.ext h) hn3 (by omega)
  have C3 := fun W (h : Ext w W) => f20_c a1 a3 n1 c1 n3 c3 l1 l3 1 W (hl1.ext h) hn1 (by omega) (hl3.ext h) hn3 (by omega)
  have C4 := fun W (h : Ext w W) => f20_c a2 a1 n2 c2 n1 c1 l2 l1 1 W (hl2.ext h) hn2 (by omega) (hl1.ext h) hn1 (by omega)
  have v1 := leastV_bd l1 l2 1
  have v2 := leastV_bd l2 l3 1
  have v3 := leastV_bd l1 l3 1
  have v4 := leastV_bd l2 l1 1
  clear hn1 hn2 hn3
  by_cases he : leastErr l1 l2 1 = 0
  case neg =>
    have C1 := Lib.hid C1
    have C2 := Lib.hid C2
    have C3 := Lib.hid C3
    have C4 := Lib.hid C4
    have g1 : (leastErr l1 l2 1 == 0) = false := by simp [he]
    have g2 : (leastErr l1 l2 1 != 0) = true := by simp [he]
    clear he
    generalize leastErr l1 l2 1 = E1 at *
    generalize leastErr l2 l3 1 = E2 at *
    generalize leastErr l1 l3 1 = E3 at *
    generalize leastErr l2 l1 1 = E4 at *
    generalize leastV l1 l2 1 = V1 at *
    generalize leastV l2 l3 1 = V2 at *
    generalize leastV l1 l3 1 = V3 at *
    generalize leastV l2 l1 1 = V4 at *
    go_enter Try.func3, Try.ntmps3
    go_wp2_with fail
    generalize w.alloc (.cells #[.slice a1 n1 c1, .slice a2 n2 c2] 24) = w0 at *
    go_wp2_with fail
    refine (f18_c _ _ _ _ _ _ _).mono ?_
    rintro e w' ⟨rfl, rfl⟩
    rw [hL]
    go_wp2_with fail
    refine (C1.out _ hE0).mono ?_
    rintro e w1 ⟨rfl, hX1⟩
    have hE1 := hE0.trans' hX1
    have k0 := (HB.out.ext hX1).cellv 0 (v := .slice a1 n1 c1) rfl
    have k1 := (HB.out.ext hX1).cellv 1 (v := .slice a2 n2 c2) rfl
    go_wp2_with fail
    refine (C2.out _ hE1).mono ?_
    rintro e w2 ⟨rfl, hX2⟩
    have hE2 := hE1.trans' hX2
    have hY2 := hX1.trans' hX2
    have k0 := (HB.out.ext hY2).cellv 0 (v := .slice a1 n1 c1) rfl
    have k1 := (HB.out.ext hY2).cellv 1 (v := .slice a2 n2 c2) rfl
    go_wp2_with fail
    refine (C3.out _ hE2).mono ?_
    rintro e w3 ⟨rfl, hX3⟩
    have hE3 := hE2.trans' hX3
    have hY3 := hY2.trans' hX3
    have k0 := (HB.out.ext hY3).cellv 0 (v := .slice a1 n1 c1) rfl
    have k1 := (HB.out.ext hY3).cellv 1 (v := .slice a2 n2 c2) rfl
    go_wp2_with fail
    refine (C4.out _ hE3).mono ?_
    rintro e w4 ⟨rfl, hX4⟩
    have hE4 := hE3.trans' hX4
    go_wp2_with fail
    refine (f19_c _).mono ?_
    rintro e w9 ⟨rfl, hE9⟩
    go_wp2_with fail
    go_ret
    exact ⟨rfl, hE4.trans' hE9⟩

  obtain ⟨s1, s2⟩ := least_symm he
  rw [he] at C1
  rw [s1, s2] at C4
  by_cases hf : leastErr l2 l3 1 = 0
  case neg =>
    have C1 := Lib.hid C1
    have C2 := Lib.hid C2
    have C3 := Lib.hid C3
    have C4 := Lib.hid C4
    have g2 : (leastErr l2 l3 1 != 0) = true := by simp [hf]
    clear he hf s1 s2 v4
    generalize leastErr l2 l3 1 = E2 at *
    generalize leastErr l1 l3 1 = E3 at *
    generalize leastV l1 l2 1 = V1 at *
    generalize leastV l2 l3 1 = V2 at *
    generalize leastV l1 l3 1 = V3 at *
    go_enter Try.func3, Try.ntmps3
    go_wp2_with fail
    generalize w.alloc (.cells #[.slice a1 n1 c1, .slice a2 n2 c2] 24) = w0 at *
    go_wp2_with fail
    refine (f18_c _ _ _ _ _ _ _).mono ?_
    rintro e w' ⟨rfl, rfl⟩
    rw [hL]
    go_wp2_with fail
    refine (C1.out _ hE0).mono ?_
    rintro e w1 ⟨rfl, hX1⟩
    have hE1 := hE0.trans' hX1
    have k0 := (HB.out.ext hX1).cellv 0 (v := .slice a1 n1 c1) rfl
    have k1 := (HB.out.ext hX1).cellv 1 (v := .slice a2 n2 c2) rfl
    go_wp2_with fail
    refine (C2.out _ hE1).mono ?_
    rintro e w2 ⟨rfl, hX2⟩
    have hE2 := hE1.trans' hX2
    have hY2 := hX1.trans' hX2
    have k0 := (HB.out.ext hY2).cellv 0 (v := .slice a1 n1 c1) rfl
    have k1 := (HB.out.ext hY2).cellv 1 (v := .slice a2 n2 c2) rfl
    go_wp2_with fail
    refine (C3.out _ hE2).mono ?_
    rintro e w3 ⟨rfl, hX3⟩
    have hE3 := hE2.trans' hX3
    have hY3 := hY2.trans' hX3
    have k0 := (HB.out.ext hY3).cellv 0 (v := .slice a1 n1 c1) rfl
    have k1 := (HB.out.ext hY3).cellv 1 (v := .slice a2 n2 c2) rfl
    go_wp2_with fail
    refine (C4.out _ hE3).mono ?_
    rintro e w4 ⟨rfl, hX4⟩
    have hE4 := hE3.trans' hX4
    go_wp2_with fail
    refine (f19_c _).mono ?_
    rintro e w9 ⟨rfl, hE9⟩
    go_wp2_with fail
    go_ret
    exact ⟨rfl, hE4.trans' hE9⟩

  obtain ⟨t1, t2⟩ := least_tri he hf
  rw [hf] at C2
  rw [t1] at C3
  have C1 := Lib.hid C1
  have C2 := Lib.hid C2
  have C3 := Lib.hid C3
  have C4 := Lib.hid C4
  clear he hf s1 s2 t1 v4
  generalize leastV l1 l2 1 = V1 at *
  generalize leastV l2 l3 1 = V2 at *
  generalize leastV l1 l3 1 = V3 at *
  have g3 : decide (V3 ≤ V1 + V2) = true := by simpa using t2
  go_enter Try.func3, Try.ntmps3
  go_wp2_with fail
  generalize w.alloc (.cells #[.slice a1 n1 c1, .slice a2 n2 c2] 24) = w0 at *
  go_wp2_with fail
  refine (f18_c _ _ _ _ _ _ _).mono ?_
  rintro e w' ⟨rfl, rfl⟩
  rw [hL]
  go_wp2_with fail
  refine (C1.out _ hE0).mono ?_
  rintro e w1 ⟨rfl, hX1⟩
  have hE1 := hE0.trans' hX1
  have k0 := (HB.out.ext hX1).cellv 0 (v := .slice a1 n1 c1) rfl
  have k1 := (HB.out.ext hX1).cellv 1 (v := .slice a2 n2 c2) rfl
  go_wp2_with fail
  refine (C2.out _ hE1).mono ?_
  rintro e w2 ⟨rfl, hX2⟩
  have hE2 := hE1.trans' hX2
  have hY2 := hX1.trans' hX2
  have k0 := (HB.out.ext hY2).cellv 0 (v := .slice a1 n1 c1) rfl
  have k1 := (HB.out.ext hY2).cellv 1 (v := .slice a2 n2 c2) rfl
  go_wp2_with fail
  refine (C3.out _ hE2).mono ?_
  rintro e w3 ⟨rfl, hX3⟩
  have hE3 := hE2.trans' hX3
  have hY3 := hY2.trans' hX3
  have k0 := (HB.out.ext hY3).cellv 0 (v := .slice a1 n1 c1) rfl
  have k1 := (HB.out.ext hY3).cellv 1 (v := .slice a2 n2 c2) rfl
  go_wp2_with fail
  refine (C4.out _ hE3).mono ?_
  rintro e w4 ⟨rfl, hX4⟩
  have hE4 := hE3.trans' hX4
  go_wp2_with fail
  refine (f19_c _).mono ?_
  rintro e w9 ⟨rfl, hE9⟩
  go_wp2_with fail
  go_ret
  exact ⟨rfl, hE4.trans' hE9⟩

end Go.Proofs.Ytfhgnmijigdlmaa
