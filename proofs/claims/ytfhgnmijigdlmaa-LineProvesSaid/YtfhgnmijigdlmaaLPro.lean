/- The heights that are returned prove the least, walked. -/
import Derived.Test.YtfhgnmijigdlmaaT15
namespace Go.Proofs.Ytfhgnmijigdlmaa
open Go.RowKit
attribute [local go_sem] GW.cell
theorem hs_proves {a b : List Atom} (hp : linePair a b = 0) : hgtErr a b (heightsL a b) = 0 ∧ hgtV a b (heightsL a b) = leastV a b 1 := by
  have hs : shapeB (placesL2 a b) (heightsL a b) = true := by
    unfold shapeB
    rw [heightsL_length, any_no fun k hk => ?_]
    · simp
    · rw [heightsL_length] at hk
      rw [heightsL_gi hk, withinB_iff]
      have := heights_bd (a := a) (b := b) hk
      omega
  have hg : gentleB (placesL2 a b) (heightsL a b) = true := (gentleB_iff _ _).2 (heights_gentle a b)
  have e : hgtErr a b (heightsL a b) = 0 := by unfold hgtErr; rw [if_neg (by simpa using hp), hs, hg]; rfl
  refine ⟨e, ?_⟩
  unfold hgtV leastV
  rw [if_pos e, if_pos (leastErr_mk hp rfl), heights_worth hp]
theorem least_pair (a b : List Atom) : leastErr a b 1 = linePair a b := by unfold leastErr linePair; simp [kindB]
set_option maxRecDepth 20000 in
set_option maxHeartbeats 8000000 in
theorem proves_walk (w : World) (a1 : Option Addr) (n1 c1 : Nat) (l1 : List Atom) (hl1 : Atoms w a1 l1) (hn1 : l1.length = n1) (a2 : Option Addr) (n2 c2 : Nat) (l2 : List Atom) (hl2 : Atoms w a2 l2) (hn2 : l2.length = n2) :
    Calls Try.prog 12 #[.agg #[.slice a1 n1 c1, .slice a2 n2 c2]] w fun e w' => e = .returned (.bool true) ∧ Below w.heap.size w w' := by
  have hE0 := ext_alloc w (.cells #[.slice a1 n1 c1, .slice a2 n2 c2] 24)
  have HB := Lib.hid (BlkC.new w #[.slice a1 n1 c1, .slice a2 n2 c2] 24)
  have k0 := HB.out.cellv 0 (v := .slice a1 n1 c1) rfl
  have k1 := HB.out.cellv 1 (v := .slice a2 n2 c2) rfl
  cases hL : longB n1 n2
  case true =>
    clear hn1 hn2
    go_enter Try.func12, Try.ntmps12
    go_wp2_with fail
    generalize w.alloc (.cells #[.slice a1 n1 c1, .slice a2 n2 c2] 24) = w0 at *
    go_wp2_with fail
    refine (f18_c _ _ _ _ _ _ _).mono ?_
    rintro e w' ⟨rfl, rfl⟩
    rw [hL]
    go_wp2_with fail
    refine (f19_c _).mono ?_
    rintro e w9 ⟨rfl, hE9⟩
    go_wp2_with fail
    go_ret
    exact ⟨rfl, hE0.trans' hE9⟩

  obtain ⟨b1, b2⟩ := longB_no hL
  have C1 := fun W (h : Ext w W) => f43_c a1 a2 n1 c1 n2 c2 l1 l2 W (hl1.ext h) hn1 (by omega) (hl2.ext h) hn2 (by omega)
  have C2 := fun W (h : Ext w W) => f32_c a1 a2 n1 c1 n2 c2 l1 l2 1 W (hl1.ext h) hn1 (by omega) (hl2.ext h) hn2 (by omega)
  rw [least_pair] at C2
  by_cases he : linePair l1 l2 = 0
  case neg =>
    have g2 : (linePair l1 l2 != 0) = true := by simp [he]
    rw [show hsV l1 l2 = [] by unfold hsV; rw [if_neg he]] at C1
    have C1 := Lib.hid C1
    have C2 := Lib.hid C2
    clear he hn1 hn2
    generalize linePair l1 l2 = E1 at *
    generalize leastV l1 l2 1 = V2 at *
    go_enter Try.func12, Try.ntmps12
    go_wp2_with fail
    generalize w.alloc (.cells #[.slice a1 n1 c1, .slice a2 n2 c2] 24) = w0 at *
    go_wp2_with fail
    refine (f18_c _ _ _ _ _ _ _).mono ?_
    rintro e w' ⟨rfl, rfl⟩
    rw [hL]
    go_wp2_with fail
    refine (C1.out _ hE0).mono ?_
    rintro e w1 ⟨p1, q1, rfl, hP1, hX1⟩
    have hE1 := hE0.trans' hX1
    have k0 := (HB.out.ext hX1).cellv 0 (v := .slice a1 n1 c1) rfl
    have k1 := (HB.out.ext hX1).cellv 1 (v := .slice a2 n2 c2) rfl
    have HP1 := Lib.hid hP1
    clear hP1
    go_wp2_with fail
    refine (C2.out _ hE1).mono ?_
    rintro e w2 ⟨rfl, hX2⟩
    have hE2 := hE1.trans' hX2
    have hY2 := hX1.trans' hX2
    have k0 := (HB.out.ext hY2).cellv 0 (v := .slice a1 n1 c1) rfl
    have k1 := (HB.out.ext hY2).cellv 1 (v := .slice a2 n2 c2) rfl
    go_wp2_with fail
    refine (f19_c _).mono ?_
    rintro e w9 ⟨rfl, hE9⟩
    go_wp2_with fail
    go_ret
    exact ⟨rfl, hE2.trans' hE9⟩

  obtain ⟨e1, e2⟩ := hs_proves he
  rw [show hsV l1 l2 = heightsL l1 l2 by unfold hsV; rw [if_pos he]] at C1
  obtain ⟨v1, v2, -⟩ := linePair_ok he
  have hlL : (heightsL l1 l2).length ≤ 1000000 := by rw [heightsL_length]; have := places_len v1 v2; omega
  have C3 := fun (a3 : Option Addr) (c3 : Nat) (W : World) (h : Ext w W) (h3 : Ints W a3 (heightsL l1 l2)) => f24_c a1 a2 a3 n1 c1 n2 c2 (heightsL l1 l2).length c3 l1 l2 (heightsL l1 l2) W (hl1.ext h) hn1 (by omega) (hl2.ext h) hn2 (by omega) h3 rfl hlL
  rw [e1, e2] at C3
  rw [he] at C1 C2
  have C1 := Lib.hid C1
  have C2 := Lib.hid C2
  have C3 := Lib.hid C3
  clear he hn1 hn2 e1 e2 v1 v2 hlL
  generalize heightsL l1 l2 = HL at *
  generalize leastV l1 l2 1 = V2 at *
  go_enter Try.func12, Try.ntmps12
  go_wp2_with fail
  generalize w.alloc (.cells #[.slice a1 n1 c1, .slice a2 n2 c2] 24) = w0 at *
  go_wp2_with fail
  refine (f18_c _ _ _ _ _ _ _).mono ?_
  rintro e w' ⟨rfl, rfl⟩
  rw [hL]
  go_wp2_with fail
  refine (C1.out _ hE0).mono ?_
  rintro e w1 ⟨p1, q1, rfl, hP1, hX1⟩
  have hE1 := hE0.trans' hX1
  have k0 := (HB.out.ext hX1).cellv 0 (v := .slice a1 n1 c1) rfl
  have k1 := (HB.out.ext hX1).cellv 1 (v := .slice a2 n2 c2) rfl
  have HP1 := Lib.hid hP1
  clear hP1
  go_wp2_with fail
  refine (C2.out _ hE1).mono ?_
  rintro e w2 ⟨rfl, hX2⟩
  have hE2 := hE1.trans' hX2
  have hY2 := hX1.trans' hX2
  have k0 := (HB.out.ext hY2).cellv 0 (v := .slice a1 n1 c1) rfl
  have k1 := (HB.out.ext hY2).cellv 1 (v := .slice a2 n2 c2) rfl
  go_wp2_with fail
  refine (C3.out _ _ _ hE2 (HP1.out.ext hX2)).mono ?_
  rintro e w3 ⟨rfl, hX3⟩
  have hE3 := hE2.trans' hX3
  go_wp2_with fail
  refine (f19_c _).mono ?_
  rintro e w9 ⟨rfl, hE9⟩
  go_wp2_with fail
  go_ret
  exact ⟨rfl, hE3.trans' hE9⟩

end Go.Proofs.Ytfhgnmijigdlmaa