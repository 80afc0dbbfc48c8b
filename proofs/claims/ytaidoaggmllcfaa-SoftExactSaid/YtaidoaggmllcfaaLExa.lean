/- The law of exact fits, walked. -/
import Derived.Test.YtaidoaggmllcfaaP3
import Derived.Test.YtaidoaggmllcfaaLCro
import Derived.Test.YtaidoaggmllcfaaLFit
namespace Go.Proofs.Ytaidoaggmllcfaa
open Go.RowKit
attribute [local go_sem] GW.cell

theorem exV_small (t : Tbl) (l : List Int) : (exV t l).length ≤ 1000000 ∧ ∀ j, (hj : j < (exV t l).length) → (exV t l)[j].length ≤ 1000000 := by
  unfold exV
  split
  · next h =>
    simp only [rowsOk, Bool.and_eq_true, decide_eq_true_eq] at h
    have H0 := tabB_ok h.1
    have h1 := H0.n5
    have h2 := H0.m5
    unfold exT
    refine ⟨by simp; omega, fun j hj => by simp [exTo]; omega⟩
  · simp
theorem exact_fin (t : Tbl) (l : List Int) (i j m n : Int) : (errOf (rowsOk t l) != 0) = true ∨ (errOf (rowsOk t l) != 0) = false ∧ ((kcErr t i j m n != 0) = true ∨ (kcErr t i j m n != 0) = false ∧ ((crErr (exV t l) i j m n != 0) = true ∨ (crErr (exV t l) i j m n != 0) = false ∧ crR ratN (exV t l) i j m n = kcR ratN t i j m n ∧ crR ratD (exV t l) i j m n = kcR ratD t i j m n)) := by
  cases h1 : rowsOk t l with
  | false => exact .inl rfl
  | true =>
    refine .inr ⟨rfl, ?_⟩
    by_cases h2 : kcErr t i j m n = 0
    · refine .inr ⟨by simp [h2], ?_⟩
      by_cases h3 : crErr (exV t l) i j m n = 0
      · refine .inr ⟨by simp [h3], ?_⟩
        have e : exV t l = exT t l := by unfold exV; rw [if_pos h1]
        rw [e] at h3 ⊢
        have h := exact_law h1 h2 h3
        unfold crV kcV at h
        injection h with h
        simp at h
        exact h
      · exact .inl (by simp [h3])
    · exact .inl (by simp [h2])

set_option maxRecDepth 20000 in
set_option maxHeartbeats 8000000 in
theorem exact_walk (w : World) (a : Option Addr) (len cap : Nat) (t : Tbl) (hl : Table w a t) (hn : t.length = len) (hlen : len ≤ 9223372036854775807) (b : Option Addr) (m2 c2 : Nat) (l : List Int) (hb : Ints w b l) (hm : l.length = m2) (i j m n : Int) :
    Calls Try.prog 9 #[.slice a len cap, .slice b m2 c2, .agg #[.int .i64 i, .int .i64 j, .int .i64 m, .int .i64 n]] w fun e w' => e = .returned (.bool true) ∧ Below w.heap.size w w' := by
  have hE0 := ext_alloc w (.cells #[.int .i64 i, .int .i64 j, .int .i64 m, .int .i64 n] 43)
  have HB := Lib.hid (BlkC.new w #[.int .i64 i, .int .i64 j, .int .i64 m, .int .i64 n] 43)
  have C13 := f13_c a len cap t _ (hl.ext hE0) hn hlen
  have lt1 := HB.out.lt
  cases hw : wideB t
  case true =>
    rw [hw] at C13
    have C13 := Lib.hid C13
    clear hw
    go_enter Try.func9, Try.ntmps9
    go_wp2_with fail
    generalize w.alloc (.cells #[.int .i64 i, .int .i64 j, .int .i64 m, .int .i64 n] 43) = w0 at *
    refine C13.out.mono ?_
    rintro e w1 ⟨rfl, rfl⟩
    go_wp2_with fail
    refine (f14_c _).mono ?_
    rintro e w2 ⟨rfl, hE2⟩
    go_wp2_with fail
    go_ret
    exact ⟨rfl, hE0.trans' hE2⟩
  rw [hw] at C13
  have C13 := Lib.hid C13
  by_cases h50 : 50 < m2
  · have d50 : decide (50 < (m2 : Int)) = true := by simp; omega
    clear hw h50
    go_enter Try.func9, Try.ntmps9
    go_wp2_with fail
    generalize w.alloc (.cells #[.int .i64 i, .int .i64 j, .int .i64 m, .int .i64 n] 43) = w0 at *
    refine C13.out.mono ?_
    rintro e w1 ⟨rfl, rfl⟩
    go_wp2_with fail
    refine (f14_c _).mono ?_
    rintro e w2 ⟨rfl, hE2⟩
    go_wp2_with fail
    go_ret
    exact ⟨rfl, hE0.trans' hE2⟩
  have d50 : decide (50 < (m2 : Int)) = false := by simp; omega
  obtain ⟨h1, hin⟩ := wide_in hw
  have C46 := fun W (h : Ext w W) => f46_c a b len cap m2 c2 t l W (hl.ext h) hn (by omega) hin (hb.ext h) hm (by omega)
  have C47 := fun W (h : Ext w W) => f47_c a b len cap m2 c2 t l W (hl.ext h) hn (by omega) hin (hb.ext h) hm (by omega)
  have C48 := fun W (h : Ext w W) => f48_c a len cap t i j m n W (hl.ext h) hn (by omega) hin
  have C49 := fun W (h : Ext w W) => f49_c a len cap t i j m n W (hl.ext h) hn (by omega) hin
  obtain ⟨hr1, hr2⟩ := exV_small t l
  have C50 := Lib.hid (fun A1 A2 c1 c2 W (h1 : RatT W A1 (exV t l)) (h2 : RatT W A2 (exV t l)) => f50_c A1 A2 (exV t l).length c1 c2 (exV t l) W h1 h2 rfl hr1 hr2)
  have C30 := fun A c W (h : RatT W A (exV t l)) => f30_c A (exV t l).length c (exV t l) i j m n W h rfl hr1 hr2
  have C31 := fun A c W (h : RatT W A (exV t l)) => f31_c A (exV t l).length c (exV t l) i j m n W h rfl hr1 hr2
  have hfin := exact_fin t l i j m n
  unfold RetRat crV at C30 C31
  unfold RetKc kcV at C48 C49
  unfold RetRR at C46 C47
  generalize exV t l = T at *
  generalize errOf (rowsOk t l) = E at *
  generalize kcErr t i j m n = KE at *
  generalize kcR ratN t i j m n = x1 at *
  generalize kcR ratD t i j m n = y1 at *
  generalize crErr T i j m n = CE at *
  generalize crR ratN T i j m n = x3 at *
  generalize crR ratD T i j m n = y3 at *
  have C46 := Lib.hid C46
  have C47 := Lib.hid C47
  have C48 := Lib.hid C48
  have C49 := Lib.hid C49
  have C30 := Lib.hid C30
  have C31 := Lib.hid C31
  have e1 : (E != E) = false := by simp
  have e2 : (KE != KE) = false := by simp
  have e3 : (CE == CE) = true := by simp
  have Hfin := Lib.hid hfin
  clear hw h50 h1 hin hn hm hlen hr1 hr2 hfin
  go_enter Try.func9, Try.ntmps9
  go_wp2_with fail
  generalize w.alloc (.cells #[.int .i64 i, .int .i64 j, .int .i64 m, .int .i64 n] 43) = w0 at *
  refine C13.out.mono ?_
  rintro e w1 ⟨rfl, rfl⟩
  clear C13
  go_wp2_with fail
  refine (C46.out _ hE0).mono ?_
  rintro e w1 ⟨A1, k1, rfl, hT1, hX1⟩
  have HT1 := Lib.hid hT1
  clear C46 hT1
  go_wp2_with fail
  refine (C47.out _ (hE0.trans' hX1)).mono ?_
  rintro e w2 ⟨A2, k2, rfl, hT2, hX2'⟩
  have hX2 := hX1.trans' hX2'
  have HT1 := Lib.hid (HT1.out.ext hX2')
  have HT2 := Lib.hid hT2
  clear C47 hT2 hX2' hX1
  have kb0 := (HB.out.ext hX2).cellv 0 (v := .int .i64 i) rfl
  have kb1 := (HB.out.ext hX2).cellv 1 (v := .int .i64 j) rfl
  have kb2 := (HB.out.ext hX2).cellv 2 (v := .int .i64 m) rfl
  have kb3 := (HB.out.ext hX2).cellv 3 (v := .int .i64 n) rfl
  go_wp2_with fail
  refine (C48.out _ (hE0.trans' hX2)).mono ?_
  rintro e w3 ⟨rfl, hX3'⟩
  have P1 := Lib.hid (Pair.new w3 46 (.int .i64 x1) (.int .i64 y1))
  have hX4' := hX3'.trans' (ext_alloc w3 (.cells #[.int .i64 x1, .int .i64 y1] 46))
  have hX3 := hX2.trans' hX4'
  have HT1 := Lib.hid (HT1.out.ext hX4')
  have HT2 := Lib.hid (HT2.out.ext hX4')
  clear kb0 kb1 kb2 kb3
  clear C48 hX2 hX3' hX4'
  have kb0 := (HB.out.ext hX3).cellv 0 (v := .int .i64 i) rfl
  have kb1 := (HB.out.ext hX3).cellv 1 (v := .int .i64 j) rfl
  have kb2 := (HB.out.ext hX3).cellv 2 (v := .int .i64 m) rfl
  have kb3 := (HB.out.ext hX3).cellv 3 (v := .int .i64 n) rfl
  go_wp2_with fail
  generalize w3.alloc (.cells #[.int .i64 x1, .int .i64 y1] 46) = w4 at *
  refine (C49.out _ (hE0.trans' hX3)).mono ?_
  rintro e w5 ⟨rfl, hX5'⟩
  have P2 := Pair.new w5 46 (.int .i64 x1) (.int .i64 y1)
  have hX6' := hX5'.trans' (ext_alloc w5 (.cells #[.int .i64 x1, .int .i64 y1] 46))
  have P1 := P1.out.ext hX6'
  have hX5 := hX3.trans' hX6'
  have HT1 := Lib.hid (HT1.out.ext hX6')
  have HT2 := Lib.hid (HT2.out.ext hX6')
  clear kb0 kb1 kb2 kb3
  clear C49 hX3 hX5' hX6'
  have p0 := P1.cell0
  have p1 := P1.cell1
  have p2 := P2.cell0
  have p3 := P2.cell1
  have HP1 := Lib.hid P1
  have HP2 := Lib.hid P2
  clear P1 P2
  go_wp2_with fail
  generalize w5.alloc (.cells #[.int .i64 x1, .int .i64 y1] 46) = w6 at *
  refine (C50.out _ _ _ _ _ HT1.out HT2.out).mono ?_
  rintro e w7 ⟨rfl, hX7'⟩
  have P1 := HP1.out.ext hX7'
  have P2 := HP2.out.ext hX7'
  have hX7 := hX5.trans' hX7'
  have HT1 := Lib.hid (HT1.out.ext hX7')
  have HT2 := Lib.hid (HT2.out.ext hX7')
  clear C50 hX5 hX7' p0 p1 p2 p3 HP1 HP2
  have p0 := P1.cell0
  have p1 := P1.cell1
  have p2 := P2.cell0
  have p3 := P2.cell1
  have kb0 := (HB.out.ext hX7).cellv 0 (v := .int .i64 i) rfl
  have kb1 := (HB.out.ext hX7).cellv 1 (v := .int .i64 j) rfl
  have kb2 := (HB.out.ext hX7).cellv 2 (v := .int .i64 m) rfl
  have kb3 := (HB.out.ext hX7).cellv 3 (v := .int .i64 n) rfl
  have HP1 := Lib.hid P1
  clear P1 P2
  go_wp2_with fail
  refine (C30.out _ _ _ HT1.out).mono ?_
  rintro e w8 ⟨rfl, hX8'⟩
  have P3 := Lib.hid (Pair.new w8 46 (.int .i64 x3) (.int .i64 y3))
  have hX9' := hX8'.trans' (ext_alloc w8 (.cells #[.int .i64 x3, .int .i64 y3] 46))
  have hX9 := hX7.trans' hX9'
  have HP1 := Lib.hid (HP1.out.ext hX9')
  have HT2 := Lib.hid (HT2.out.ext hX9')
  clear kb0 kb1 kb2 kb3
  clear C30 hX7 hX8' hX9' HT1 p0 p1 p2 p3
  have kb0 := (HB.out.ext hX9).cellv 0 (v := .int .i64 i) rfl
  have kb1 := (HB.out.ext hX9).cellv 1 (v := .int .i64 j) rfl
  have kb2 := (HB.out.ext hX9).cellv 2 (v := .int .i64 m) rfl
  have kb3 := (HB.out.ext hX9).cellv 3 (v := .int .i64 n) rfl
  go_wp2_with fail
  generalize w8.alloc (.cells #[.int .i64 x3, .int .i64 y3] 46) = w9 at *
  refine (C31.out _ _ _ HT2.out).mono ?_
  rintro e w10 ⟨rfl, hX10'⟩
  have P4 := Pair.new w10 46 (.int .i64 x3) (.int .i64 y3)
  have hX11' := hX10'.trans' (ext_alloc w10 (.cells #[.int .i64 x3, .int .i64 y3] 46))
  have hX11 := hX9.trans' hX11'
  have P1 := HP1.out.ext hX11'
  have P3 := P3.out.ext hX11'
  clear kb0 kb1 kb2 kb3
  clear C31 hX9 hX10' hX11' HT2 HP1
  have p0 := P1.cell0
  have p1 := P1.cell1
  have p2 := P3.cell0
  have p3 := P3.cell1
  have p4 := P4.cell0
  have p5 := P4.cell1
  clear P1 P3 P4
  rcases Hfin.out with h | ⟨h, h' | ⟨h', h'' | ⟨h'', rfl, rfl⟩⟩⟩
  all_goals
    go_wp2_with fail
    refine (f14_c _).mono ?_
    rintro e w12 ⟨rfl, hX12⟩
    go_wp2_with fail
    go_ret
    exact ⟨rfl, hE0.trans' (hX11.trans' hX12)⟩
end Go.Proofs.Ytaidoaggmllcfaa
