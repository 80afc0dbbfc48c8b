/- The area between two loads, walked. -/
import Derived.Test.YtfhgnmijigdlmaaT14
namespace Go.Proofs.Ytfhgnmijigdlmaa
open Go.RowKit
attribute [local go_sem] GW.cell
theorem area_least (a b : List Atom) : leastErr a b 1 = linePair a b ∧ leastV a b 1 = areaV a b := by
  have e : leastErr a b 1 = linePair a b := by unfold leastErr linePair; simp [kindB]
  refine ⟨e, ?_⟩
  unfold leastV areaV
  rw [e]
  by_cases h : linePair a b = 0
  · rw [if_pos h, if_pos h, area_said h]
  · rw [if_neg h, if_neg h]
set_option maxRecDepth 20000 in
set_option maxHeartbeats 8000000 in
theorem areas_walk (w : World) (a1 : Option Addr) (n1 c1 : Nat) (l1 : List Atom) (hl1 : Atoms w a1 l1) (hn1 : l1.length = n1) (a2 : Option Addr) (n2 c2 : Nat) (l2 : List Atom) (hl2 : Atoms w a2 l2) (hn2 : l2.length = n2) :
    Calls Try.prog 5 #[.agg #[.slice a1 n1 c1, .slice a2 n2 c2]] w fun e w' => e = .returned (.bool true) ∧ Below w.heap.size w w' := by
  have hE0 := ext_alloc w (.cells #[.slice a1 n1 c1, .slice a2 n2 c2] 24)
  have HB := Lib.hid (BlkC.new w #[.slice a1 n1 c1, .slice a2 n2 c2] 24)
  have k0 := HB.out.cellv 0 (v := .slice a1 n1 c1) rfl
  have k1 := HB.out.cellv 1 (v := .slice a2 n2 c2) rfl
  cases hL : longB n1 n2
  case true =>
    clear hn1 hn2
    go_enter Try.func5, Try.ntmps5
    go_wp2_with fail
    generalize w.alloc (.cells #[.slice a1 n1 c1, .slice a2 n2 c2] 24) = w0 at *
    go_wp2_with fail
    refine (f18_c _ _ _ _ _ _ _).mono ?_
    rintro e w' ⟨rfl, rfl⟩
    rw [hL]
    go_wp2_with fail
    refine (f19_c _).mono ?_
    rintro e w9 ⟨rfl, hE9⟩
    go_wp2_with fail
    go_ret
    exact ⟨rfl, hE0.trans' hE9⟩

  obtain ⟨b1, b2⟩ := longB_no hL
  have C1 := fun W (h : Ext w W) => f26_c a1 a2 n1 c1 n2 c2 l1 l2 W (hl1.ext h) hn1 (by omega) (hl2.ext h) hn2 (by omega)
  have C2 := fun W (h : Ext w W) => f27_c a1 a2 n1 c1 n2 c2 l1 l2 W (hl1.ext h) hn1 (by omega) (hl2.ext h) hn2 (by omega)
  have C3 := fun W (h : Ext w W) => f20_c a1 a2 n1 c1 n2 c2 l1 l2 1 W (hl1.ext h) hn1 (by omega) (hl2.ext h) hn2 (by omega)
  obtain ⟨e1, e2⟩ := area_least l1 l2
  rw [e1, e2] at C3
  have C1 := Lib.hid C1
  have C2 := Lib.hid C2
  have C3 := Lib.hid C3
  clear hn1 hn2 e1 e2
  generalize areaV l1 l2 = V1 at *
  generalize linePair l1 l2 = E1 at *
  go_enter Try.func5, Try.ntmps5
  go_wp2_with fail
  generalize w.alloc (.cells #[.slice a1 n1 c1, .slice a2 n2 c2] 24) = w0 at *
  go_wp2_with fail
  refine (f18_c _ _ _ _ _ _ _).mono ?_
  rintro e w' ⟨rfl, rfl⟩
  rw [hL]
  go_wp2_with fail
  refine (C1.out _ hE0).mono ?_
  rintro e w1 ⟨rfl, hX1⟩
  have hE1 := hE0.trans' hX1
  have k0 := (HB.out.ext hX1).cellv 0 (v := .slice a1 n1 c1) rfl
  have k1 := (HB.out.ext hX1).cellv 1 (v := .slice a2 n2 c2) rfl
  go_wp2_with fail
  refine (C2.out _ hE1).mono ?_
  rintro e w2 ⟨rfl, hX2⟩
  have hE2 := hE1.trans' hX2
  have hY2 := hX1.trans' hX2
  have k0 := (HB.out.ext hY2).cellv 0 (v := .slice a1 n1 c1) rfl
  have k1 := (HB.out.ext hY2).cellv 1 (v := .slice a2 n2 c2) rfl
  go_wp2_with fail
  refine (C3.out _ hE2).mono ?_
  rintro e w3 ⟨rfl, hX3⟩
  have hE3 := hE2.trans' hX3
  have hY3 := hY2.trans' hX3
  have k0 := (HB.out.ext hY3).cellv 0 (v := .slice a1 n1 c1) rfl
  have k1 := (HB.out.ext hY3).cellv 1 (v := .slice a2 n2 c2) rfl
  go_wp2_with fail
  refine (f19_c _).mono ?_
  rintro e w9 ⟨rfl, hE9⟩
  go_wp2_with fail
  go_ret
  exact ⟨rfl, hE3.trans' hE9⟩

end Go.Proofs.Ytfhgnmijigdlmaa