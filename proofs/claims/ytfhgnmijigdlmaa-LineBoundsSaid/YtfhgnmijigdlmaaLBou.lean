/- The bounds of moves, walked. -/
import Derived.Test.YtfhgnmijigdlmaaT21
namespace Go.Proofs.Ytfhgnmijigdlmaa
open Go.RowKit
attribute [local go_sem] GW.cell
set_option maxRecDepth 20000 in
set_option maxHeartbeats 16000000 in
theorem bounds_walk (w : World) (a1 : Option Addr) (n1 c1 : Nat) (l1 : List Atom) (hl1 : Atoms w a1 l1) (hn1 : l1.length = n1) (a2 : Option Addr) (n2 c2 : Nat) (l2 : List Atom) (hl2 : Atoms w a2 l2) (hn2 : l2.length = n2) (a3 : Option Addr) (n3 c3 : Nat) (M : List Move) (hl3 : Moves w a3 M) (hn3 : M.length = n3) :
    Calls Try.prog 16 #[.agg #[.slice a1 n1 c1, .slice a2 n2 c2], .slice a3 n3 c3] w fun e w' => e = .returned (.bool true) ∧ Below w.heap.size w w' := by
  have hE0 := ext_alloc w (.cells #[.slice a1 n1 c1, .slice a2 n2 c2] 24)
  have HB := Lib.hid (BlkC.new w #[.slice a1 n1 c1, .slice a2 n2 c2] 24)
  have k0 := HB.out.cellv 0 (v := .slice a1 n1 c1) rfl
  have k1 := HB.out.cellv 1 (v := .slice a2 n2 c2) rfl
  cases hL : longB n1 n2
  case true =>
    clear hn1 hn2 hn3
    go_enter Try.func16, Try.ntmps16
    go_wp2_with fail
    generalize w.alloc (.cells #[.slice a1 n1 c1, .slice a2 n2 c2] 24) = w0 at *
    go_wp2_with fail
    refine (f18_c _ _ _ _ _ _ _).mono ?_
    rintro e w' ⟨rfl, rfl⟩
    rw [hL]
    go_wp2_with fail
    refine (f19_c _).mono ?_
    rintro e w9 ⟨rfl, hE9⟩
    go_wp2_with fail
    go_ret
    exact ⟨rfl, hE0.trans' hE9⟩

  obtain ⟨b1, b2⟩ := longB_no hL
  by_cases h3 : 100 < n3
  · have d3 : decide (100 < (n3 : Int)) = true := by simp; omega
    clear hn1 hn2 hn3
    go_enter Try.func16, Try.ntmps16
    go_wp2_with fail
    generalize w.alloc (.cells #[.slice a1 n1 c1, .slice a2 n2 c2] 24) = w0 at *
    go_wp2_with fail
    refine (f18_c _ _ _ _ _ _ _).mono ?_
    rintro e w' ⟨rfl, rfl⟩
    rw [hL]
    go_wp2_with fail
    refine (f19_c _).mono ?_
    rintro e w9 ⟨rfl, hE9⟩
    go_wp2_with fail
    go_ret
    exact ⟨rfl, hE0.trans' hE9⟩

  have d3 : decide (100 < (n3 : Int)) = false := by simp; omega
  have C1 := fun W (h : Ext w W) => f39_c a1 a2 a3 n1 c1 n2 c2 n3 c3 l1 l2 M W (hl1.ext h) hn1 (by omega) (hl2.ext h) hn2 (by omega) (hl3.ext h) hn3 (by omega)
  by_cases he : chkErr l1 l2 M = 0
  case neg =>
    have g2 : (chkErr l1 l2 M != 0) = true := by simp [he]
    have C1 := Lib.hid C1
    clear he hn1 hn2 hn3
    generalize chkErr l1 l2 M = E1 at *
    go_enter Try.func16, Try.ntmps16
    go_wp2_with fail
    generalize w.alloc (.cells #[.slice a1 n1 c1, .slice a2 n2 c2] 24) = w0 at *
    go_wp2_with fail
    refine (f18_c _ _ _ _ _ _ _).mono ?_
    rintro e w' ⟨rfl, rfl⟩
    rw [hL]
    go_wp2_with fail
    refine (C1.out _ hE0).mono ?_
    rintro e w1 ⟨rfl, hX1⟩
    have hE1 := hE0.trans' hX1
    have k0 := (HB.out.ext hX1).cellv 0 (v := .slice a1 n1 c1) rfl
    have k1 := (HB.out.ext hX1).cellv 1 (v := .slice a2 n2 c2) rfl
    go_wp2_with fail
    refine (f19_c _).mono ?_
    rintro e w9 ⟨rfl, hE9⟩
    go_wp2_with fail
    go_ret
    exact ⟨rfl, hE1.trans' hE9⟩
  rw [he] at C1
  obtain ⟨p1, p2, p3⟩ := chkErr_ok he
  obtain ⟨q1, q2, q3⟩ := bounds_said he
  have l11 := leastErr_mk (k := 1) p1 rfl
  have l21 := leastErr_mk (k := 2) p1 rfl
  have m1 : costErr M 1 = 0 := by unfold costErr; rw [if_neg (by simpa using p2)]; rfl
  have m2 : costErr M 2 = 0 := by unfold costErr; rw [if_neg (by simpa using p2)]; rfl
  have v1 : leastV l1 l2 1 = apartL l1 l2 1 := by unfold leastV; rw [if_pos l11]
  have v2 : leastV l1 l2 2 = apartL l1 l2 2 := by unfold leastV; rw [if_pos l21]
  have u1 : costV M 1 = costTo M 1 M.length := by unfold costV; rw [if_pos m1]
  have u2 : costV M 2 = costTo M 2 M.length := by unfold costV; rw [if_pos m2]
  rw [← v1, ← u1] at q1
  rw [← v2, ← u2] at q2 q3
  have s1 : decide (costV M 1 < leastV l1 l2 1) = false := by simp; omega
  have s2 : decide (costV M 2 < leastV l1 l2 2) = false := by simp; omega
  have s3 : (costV M 2 == leastV l1 l2 2) = isOrdV M := by
    rw [Bool.eq_iff_iff, beq_iff_eq, q3]
    unfold isOrdV
    rw [p2]
    simp
  have C2 := fun W (h : Ext w W) => f51_c a3 n3 c3 M W (hl3.ext h) hn3 (by omega)
  have D1 := fun W (h : Ext w W) => f20_c a1 a2 n1 c1 n2 c2 l1 l2 1 W (hl1.ext h) hn1 (by omega) (hl2.ext h) hn2 (by omega)
  have D2 := fun W (h : Ext w W) => f20_c a1 a2 n1 c1 n2 c2 l1 l2 2 W (hl1.ext h) hn1 (by omega) (hl2.ext h) hn2 (by omega)
  have E1 := fun W (h : Ext w W) => f34_c a3 n3 c3 M 1 W (hl3.ext h) hn3 (by omega)
  have E2 := fun W (h : Ext w W) => f34_c a3 n3 c3 M 2 W (hl3.ext h) hn3 (by omega)
  rw [l11] at D1
  rw [l21] at D2
  rw [m1] at E1
  rw [m2] at E2
  rw [p2] at C2
  have C1 := Lib.hid C1
  have C2 := Lib.hid C2
  have D1 := Lib.hid D1
  have D2 := Lib.hid D2
  have E1 := Lib.hid E1
  have E2 := Lib.hid E2
  have S3 := Lib.hid s3
  clear he hn1 hn2 hn3 p1 p2 p3 q1 q2 q3 l11 l21 m1 m2 v1 v2 u1 u2 s3
  generalize costV M 1 = x1 at *
  generalize costV M 2 = x2 at *
  generalize leastV l1 l2 1 = y1 at *
  generalize leastV l1 l2 2 = y2 at *
  generalize isOrdV M = oo at *
  go_enter Try.func16, Try.ntmps16
  go_wp2_with fail
  generalize w.alloc (.cells #[.slice a1 n1 c1, .slice a2 n2 c2] 24) = w0 at *
  go_wp2_with fail
  refine (f18_c _ _ _ _ _ _ _).mono ?_
  rintro e w' ⟨rfl, rfl⟩
  rw [hL]
  go_wp2_with fail
  refine (C1.out _ hE0).mono ?_
  rintro e w1 ⟨rfl, hX1⟩
  have hE1 := hE0.trans' hX1
  have k0 := (HB.out.ext hX1).cellv 0 (v := .slice a1 n1 c1) rfl
  have k1 := (HB.out.ext hX1).cellv 1 (v := .slice a2 n2 c2) rfl
  go_wp2_with fail
  refine (C2.out _ hE1).mono ?_
  rintro e w2 ⟨rfl, hX2⟩
  have hE2 := hE1.trans' hX2
  have hY2 := hX1.trans' hX2
  have k0 := (HB.out.ext hY2).cellv 0 (v := .slice a1 n1 c1) rfl
  have k1 := (HB.out.ext hY2).cellv 1 (v := .slice a2 n2 c2) rfl
  go_wp2_with fail
  go_loopw [7] (fun i wr => Hid (i = .int .i64 1 ∨ i = .int .i64 2 ∨ i = .int .i64 3) ∧ Ext w0 wr) (fun i _ => 3 - (intOf i).toNat)
  case atStart => exact ⟨.inl rfl, hY2⟩
  case round =>
    obtain ⟨hi, hX⟩ := hrel
    rcases hi.out with hi | hi | hi
    · subst hi
      have k0 := (HB.out.ext hX).cellv 0 (v := .slice a1 n1 c1) rfl
      have k1 := (HB.out.ext hX).cellv 1 (v := .slice a2 n2 c2) rfl
      clear hi
      go_wp2_with fail
      refine (D1.out _ (hE0.trans' hX)).mono ?_
      rintro e w5 ⟨rfl, hX5⟩
      have hX6 := hX.trans' hX5
      go_wp2_with fail
      refine (E1.out _ (hE0.trans' hX6)).mono ?_
      rintro e w6 ⟨rfl, hX7⟩
      have hX8 := hX6.trans' hX7
      go_wp2_with fail
      go_roundw
      case rel => exact ⟨.inr (.inl rfl), hX8⟩
      case measure => simp [intOf]
    · subst hi
      have k0 := (HB.out.ext hX).cellv 0 (v := .slice a1 n1 c1) rfl
      have k1 := (HB.out.ext hX).cellv 1 (v := .slice a2 n2 c2) rfl
      clear hi
      go_wp2_with fail
      refine (D2.out _ (hE0.trans' hX)).mono ?_
      rintro e w5 ⟨rfl, hX5⟩
      have hX6 := hX.trans' hX5
      go_wp2_with fail
      refine (E2.out _ (hE0.trans' hX6)).mono ?_
      rintro e w6 ⟨rfl, hX7⟩
      have hX8 := hX6.trans' hX7
      have s3 := S3.out
      cases oo
      · go_wp2_with fail
        go_roundw
        case rel => exact ⟨.inr (.inr rfl), hX8⟩
        case measure => simp [intOf]
      · go_wp2_with fail
        go_roundw
        case rel => exact ⟨.inr (.inr rfl), hX8⟩
        case measure => simp [intOf]
    · subst hi
      clear hi
      go_wp2_with fail
      refine (f19_c _).mono ?_
      rintro e w9 ⟨rfl, hE9⟩
      go_wp2_with fail
      go_ret
      exact ⟨rfl, (hE0.trans' hX).trans' hE9⟩

end Go.Proofs.Ytfhgnmijigdlmaa