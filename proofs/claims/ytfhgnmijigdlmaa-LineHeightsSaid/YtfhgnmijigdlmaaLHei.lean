/- Places, and what heights are worth, walked. -/
import Derived.Test.YtfhgnmijigdlmaaLTri
import Derived.Test.YtfhgnmijigdlmaaT15
namespace Go.Proofs.Ytfhgnmijigdlmaa
open Go.RowKit
attribute [local go_sem] GW.cell
theorem worth_least {a b : List Atom} {h : List Int} (he : hgtErr a b h = 0) : leastErr a b 1 = 0 ∧ hgtV a b h ≤ leastV a b 1 := by
  have hp : linePair a b = 0 := by
    by_cases hp : linePair a b = 0
    · exact hp
    · unfold hgtErr at he; rw [if_pos hp] at he; exact absurd he hp
  have e1 := leastErr_mk (k := 1) hp rfl
  refine ⟨e1, ?_⟩
  have hg : gentleB (placesL2 a b) h = true := by
    unfold hgtErr at he
    rw [if_neg (by simpa using hp)] at he
    cases hs : shapeB (placesL2 a b) h
    · rw [hs] at he; simp at he
    · cases hg : gentleB (placesL2 a b) h
      · rw [hs, hg] at he; simp at he
      · rfl
  unfold hgtV leastV
  rw [if_pos he, if_pos e1]
  exact worth_le hp ((gentleB_iff _ _).1 hg)
theorem hgtV_bd (a b : List Atom) (h : List Int) : -3600000 ≤ hgtV a b h ∧ hgtV a b h ≤ 3600000 := by
  unfold hgtV
  split
  · next he =>
    have hp : linePair a b = 0 := by
      by_cases hp : linePair a b = 0
      · exact hp
      · unfold hgtErr at he; rw [if_pos hp] at he; exact absurd he hp
    obtain ⟨v1, v2, -⟩ := linePair_ok hp
    have hs : shapeB (placesL2 a b) h = true := by
      unfold hgtErr at he
      rw [if_neg (by simpa using hp)] at he
      cases hs : shapeB (placesL2 a b) h
      · rw [hs] at he; simp at he
      · rfl
    obtain ⟨hs1, hs2⟩ := shapeB_ok hs
    have hL := places_len v1 v2
    have h6a := (listErr_ok v1).1
    have h6b := (listErr_ok v2).1
    have := worthTo_bd (L := placesL2 a b) v1 v2 (fun i hi => hs2 i (by omega)) _ (Nat.le_refl _)
    omega
  · omega
set_option maxRecDepth 20000 in
set_option maxHeartbeats 8000000 in
theorem heights_walk (w : World) (a1 : Option Addr) (n1 c1 : Nat) (l1 : List Atom) (hl1 : Atoms w a1 l1) (hn1 : l1.length = n1) (a2 : Option Addr) (n2 c2 : Nat) (l2 : List Atom) (hl2 : Atoms w a2 l2) (hn2 : l2.length = n2) (a3 : Option Addr) (n3 c3 : Nat) (h3' : List Int) (hl3 : Ints w a3 h3') (hn3 : h3'.length = n3) :
    Calls Try.prog 4 #[.agg #[.slice a1 n1 c1, .slice a2 n2 c2], .slice a3 n3 c3] w fun e w' => e = .returned (.bool true) ∧ Below w.heap.size w w' := by
  have hE0 := ext_alloc w (.cells #[.slice a1 n1 c1, .slice a2 n2 c2] 24)
  have HB := Lib.hid (BlkC.new w #[.slice a1 n1 c1, .slice a2 n2 c2] 24)
  have k0 := HB.out.cellv 0 (v := .slice a1 n1 c1) rfl
  have k1 := HB.out.cellv 1 (v := .slice a2 n2 c2) rfl
  cases hL : longB n1 n2
  case true =>
    clear hn1 hn2 hn3
    go_enter Try.func4, Try.ntmps4
    go_wp2_with fail
    generalize w.alloc (.cells #[.slice a1 n1 c1, .slice a2 n2 c2] 24) = w0 at *
    go_wp2_with fail
    refine (f18_c _ _ _ _ _ _ _).mono ?_
    rintro e w' ⟨rfl, rfl⟩
    rw [hL]
    go_wp2_with fail
    refine (f19_c _).mono ?_
    rintro e w9 ⟨rfl, hE9⟩
    go_wp2_with fail
    go_ret
    exact ⟨rfl, hE0.trans' hE9⟩

  obtain ⟨b1, b2⟩ := longB_no hL
  by_cases h3 : 100 < n3
  · have d3 : decide (100 < (n3 : Int)) = true := by simp; omega
    clear hn1 hn2 hn3
    go_enter Try.func4, Try.ntmps4
    go_wp2_with fail
    generalize w.alloc (.cells #[.slice a1 n1 c1, .slice a2 n2 c2] 24) = w0 at *
    go_wp2_with fail
    refine (f18_c _ _ _ _ _ _ _).mono ?_
    rintro e w' ⟨rfl, rfl⟩
    rw [hL]
    go_wp2_with fail
    refine (f19_c _).mono ?_
    rintro e w9 ⟨rfl, hE9⟩
    go_wp2_with fail
    go_ret
    exact ⟨rfl, hE0.trans' hE9⟩

  have d3 : decide (100 < (n3 : Int)) = false := by simp; omega
  have C1 := fun W (h : Ext w W) => f21_c a1 a2 n1 c1 n2 c2 l1 l2 W (hl1.ext h) hn1 (by omega) (hl2.ext h) hn2 (by omega)
  have C2 := fun W (h : Ext w W) => f22_c a1 a2 n1 c1 n2 c2 l1 l2 W (hl1.ext h) hn1 (by omega) (hl2.ext h) hn2 (by omega)
  have C5 := fun W (h : Ext w W) => f20_c a1 a2 n1 c1 n2 c2 l1 l2 1 W (hl1.ext h) hn1 (by omega) (hl2.ext h) hn2 (by omega)
  have C3 := fun W (h : Ext w W) => f23_c a1 a2 a3 n1 c1 n2 c2 n3 c3 l1 l2 h3' W (hl1.ext h) hn1 (by omega) (hl2.ext h) hn2 (by omega) (hl3.ext h) hn3 (by omega)
  have C4 := fun W (h : Ext w W) => f24_c a1 a2 a3 n1 c1 n2 c2 n3 c3 l1 l2 h3' W (hl1.ext h) hn1 (by omega) (hl2.ext h) hn2 (by omega) (hl3.ext h) hn3 (by omega)
  have hpl : (plV l1 l2).length ≤ 1000000 := by
    unfold plV
    split
    · next h => obtain ⟨v1, v2⟩ := bothErr_ok h; have := places_len v1 v2; omega
    · simp
  have C6 := fun (a a' : Option Addr) (c c' : Nat) (W : World) (h : Ints W a (plV l1 l2)) (h' : Ints W a' (plV l1 l2)) => f25_eq a a' (plV l1 l2).length c (plV l1 l2).length c' (plV l1 l2) W h rfl hpl h' rfl
  have C1 := Lib.hid C1
  have C2 := Lib.hid C2
  have C6 := Lib.hid C6
  have vb := leastV_bd l1 l2 1
  have vh := hgtV_bd l1 l2 h3'
  by_cases he : hgtErr l1 l2 h3' = 0
  case neg =>
    have g2 : (hgtErr l1 l2 h3' != 0) = true := by simp [he]
    have C3 := Lib.hid C3
    have C4 := Lib.hid C4
    have C5 := Lib.hid C5
    clear he hn1 hn2 hn3 hpl
    generalize hgtErr l1 l2 h3' = E1 at *
    generalize hgtV l1 l2 h3' = V1 at *
    generalize plV l1 l2 = PL at *
    generalize bothErr l1 l2 = E0 at *
    generalize leastErr l1 l2 1 = E2 at *
    generalize leastV l1 l2 1 = V2 at *
    go_enter Try.func4, Try.ntmps4
    go_wp2_with fail
    generalize w.alloc (.cells #[.slice a1 n1 c1, .slice a2 n2 c2] 24) = w0 at *
    go_wp2_with fail
    refine (f18_c _ _ _ _ _ _ _).mono ?_
    rintro e w' ⟨rfl, rfl⟩
    rw [hL]
    go_wp2_with fail
    refine (C1.out _ hE0).mono ?_
    rintro e w1 ⟨p1, q1, rfl, hP1, hX1⟩
    have hE1 := hE0.trans' hX1
    have k0 := (HB.out.ext hX1).cellv 0 (v := .slice a1 n1 c1) rfl
    have k1 := (HB.out.ext hX1).cellv 1 (v := .slice a2 n2 c2) rfl
    have HP1 := Lib.hid hP1
    clear hP1
    go_wp2_with fail
    refine (C2.out _ hE1).mono ?_
    rintro e w2 ⟨p2, q2, rfl, hP2, hX2⟩
    have hE2 := hE1.trans' hX2
    have hY2 := hX1.trans' hX2
    have k0 := (HB.out.ext hY2).cellv 0 (v := .slice a1 n1 c1) rfl
    have k1 := (HB.out.ext hY2).cellv 1 (v := .slice a2 n2 c2) rfl
    have HP2 := Lib.hid hP2
    clear hP2
    go_wp2_with fail
    refine (C3.out _ hE2).mono ?_
    rintro e w3 ⟨rfl, hX3⟩
    have hE3 := hE2.trans' hX3
    have hY3 := hY2.trans' hX3
    have k0 := (HB.out.ext hY3).cellv 0 (v := .slice a1 n1 c1) rfl
    have k1 := (HB.out.ext hY3).cellv 1 (v := .slice a2 n2 c2) rfl
    go_wp2_with fail
    refine (C4.out _ hE3).mono ?_
    rintro e w4 ⟨rfl, hX4⟩
    have hE4 := hE3.trans' hX4
    have hY4 := hY3.trans' hX4
    have k0 := (HB.out.ext hY4).cellv 0 (v := .slice a1 n1 c1) rfl
    have k1 := (HB.out.ext hY4).cellv 1 (v := .slice a2 n2 c2) rfl
    go_wp2_with fail
    refine (C6.out _ _ _ _ _ (HP1.out.ext (hX2.trans' (hX3.trans' hX4))) (HP2.out.ext (hX3.trans' hX4))).mono ?_
    rintro e w5 ⟨rfl, hX5⟩
    have hE5 := hE4.trans' hX5
    have hY5 := hY4.trans' hX5
    have k0 := (HB.out.ext hY5).cellv 0 (v := .slice a1 n1 c1) rfl
    have k1 := (HB.out.ext hY5).cellv 1 (v := .slice a2 n2 c2) rfl
    go_wp2_with fail
    refine (C5.out _ hE5).mono ?_
    rintro e w6 ⟨rfl, hX6⟩
    have hE6 := hE5.trans' hX6
    go_wp2_with fail
    refine (f19_c _).mono ?_
    rintro e w9 ⟨rfl, hE9⟩
    go_wp2_with fail
    go_ret
    exact ⟨rfl, hE6.trans' hE9⟩

  obtain ⟨e1, e2⟩ := worth_least he
  rw [he] at C3 C4
  rw [e1] at C5
  have C3 := Lib.hid C3
  have C4 := Lib.hid C4
  have C5 := Lib.hid C5
  have g3 : decide (hgtV l1 l2 h3' ≤ leastV l1 l2 1) = true := by simpa using e2
  clear he hn1 hn2 hn3 hpl e1 e2
  generalize hgtV l1 l2 h3' = V1 at *
  generalize plV l1 l2 = PL at *
  generalize bothErr l1 l2 = E0 at *
  generalize leastV l1 l2 1 = V2 at *
  go_enter Try.func4, Try.ntmps4
  go_wp2_with fail
  generalize w.alloc (.cells #[.slice a1 n1 c1, .slice a2 n2 c2] 24) = w0 at *
  go_wp2_with fail
  refine (f18_c _ _ _ _ _ _ _).mono ?_
  rintro e w' ⟨rfl, rfl⟩
  rw [hL]
  go_wp2_with fail
  refine (C1.out _ hE0).mono ?_
  rintro e w1 ⟨p1, q1, rfl, hP1, hX1⟩
  have hE1 := hE0.trans' hX1
  have k0 := (HB.out.ext hX1).cellv 0 (v := .slice a1 n1 c1) rfl
  have k1 := (HB.out.ext hX1).cellv 1 (v := .slice a2 n2 c2) rfl
  have HP1 := Lib.hid hP1
  clear hP1
  go_wp2_with fail
  refine (C2.out _ hE1).mono ?_
  rintro e w2 ⟨p2, q2, rfl, hP2, hX2⟩
  have hE2 := hE1.trans' hX2
  have hY2 := hX1.trans' hX2
  have k0 := (HB.out.ext hY2).cellv 0 (v := .slice a1 n1 c1) rfl
  have k1 := (HB.out.ext hY2).cellv 1 (v := .slice a2 n2 c2) rfl
  have HP2 := Lib.hid hP2
  clear hP2
  go_wp2_with fail
  refine (C3.out _ hE2).mono ?_
  rintro e w3 ⟨rfl, hX3⟩
  have hE3 := hE2.trans' hX3
  have hY3 := hY2.trans' hX3
  have k0 := (HB.out.ext hY3).cellv 0 (v := .slice a1 n1 c1) rfl
  have k1 := (HB.out.ext hY3).cellv 1 (v := .slice a2 n2 c2) rfl
  go_wp2_with fail
  refine (C4.out _ hE3).mono ?_
  rintro e w4 ⟨rfl, hX4⟩
  have hE4 := hE3.trans' hX4
  have hY4 := hY3.trans' hX4
  have k0 := (HB.out.ext hY4).cellv 0 (v := .slice a1 n1 c1) rfl
  have k1 := (HB.out.ext hY4).cellv 1 (v := .slice a2 n2 c2) rfl
  go_wp2_with fail
  refine (C6.out _ _ _ _ _ (HP1.out.ext (hX2.trans' (hX3.trans' hX4))) (HP2.out.ext (hX3.trans' hX4))).mono ?_
  rintro e w5 ⟨rfl, hX5⟩
  have hE5 := hE4.trans' hX5
  have hY5 := hY4.trans' hX5
  have k0 := (HB.out.ext hY5).cellv 0 (v := .slice a1 n1 c1) rfl
  have k1 := (HB.out.ext hY5).cellv 1 (v := .slice a2 n2 c2) rfl
  go_wp2_with fail
  refine (C5.out _ hE5).mono ?_
  rintro e w6 ⟨rfl, hX6⟩
  have hE6 := hE5.trans' hX6
  go_wp2_with fail
  refine (f19_c _).mono ?_
  rintro e w9 ⟨rfl, hE9⟩
  go_wp2_with fail
  go_ret
  exact ⟨rfl, hE6.trans' hE9⟩

end Go.Proofs.Ytfhgnmijigdlmaa