/- CellLeast: the law's walk. -/
import Derived.Test.YtodlbgncdggimaaT45
import Derived.Test.YtodlbgncdggimaaLAlk
namespace Go.Proofs.Ytodlbgncdggimaa
open Go.RowKit
attribute [local go_sem] GW.cell

set_option maxHeartbeats 8000000 in
theorem lawLeast (w : World) (a : Option Addr) (n c : Nat) (l : List Site) (hl : Sites w a l) (hn : l.length = n) (x y : Int) (b : Option Addr) (m d : Nat) (O : List Int) (hO : Ints w b O) (hm : O.length = m) :
    Calls Try.prog 14 #[.slice a n c, .agg #[.int .i64 x, .int .i64 y], .slice b m d] w fun e w' => e = .returned (.bool true) ∧ Ext w w' := by
  subst hn hm
  have hEb := ext_alloc w (.cells #[.int .i64 x, .int .i64 y] 24)
  by_cases h40 : 40 < l.length
  · have hd : decide (40 < (l.length : Int)) = true := by simp; omega
    go_enter Try.func14, Try.ntmps14
    go_wp2_with fail
    refine (f17_c _).mono ?_
    rintro e w1 ⟨rfl, hE⟩
    go_wp2_with fail
    go_ret
    exact ⟨rfl, hEb.trans' hE⟩
  have hd : decide (40 < (l.length : Int)) = false := by simp; omega
  have hlen : l.length ≤ 140737488355328 := by omega
  by_cases h200 : 200 < O.length
  · have hd2 : decide (200 < (O.length : Int)) = true := by simp; omega
    go_enter Try.func14, Try.ntmps14
    go_wp2_with fail
    refine (f24_c _ _ _ _).mono ?_
    rintro e w1 ⟨rfl, rfl⟩
    rw [hd2]
    go_wp2_with fail
    refine (f17_c _).mono ?_
    rintro e w1 ⟨rfl, hE⟩
    go_wp2_with fail
    go_ret
    exact ⟨rfl, hEb.trans' hE⟩
  have hd2 : decide (200 < (O.length : Int)) = false := by simp; omega
  have hlm : O.length ≤ 140737488355328 := by omega
  have Hd2 := Lib.hid hd2
  have HB := Lib.hid (BlkC.new w #[.int .i64 x, .int .i64 y] 24)
  have hz := HB.out.lt
  have g0 := HB.out.cellv 0 (v := .int .i64 x) rfl
  have g1 := HB.out.cellv 1 (v := .int .i64 y) rfl
  have hee : (errOf (okShared l x y O) == errOf (okShared l x y O)) = true := by simp
  clear hd2 h200
  go_enter Try.func14, Try.ntmps14
  go_wp2_with fail
  generalize (w.alloc (.cells #[.int .i64 x, .int .i64 y] 24)) = w0 at *
  refine (f24_c _ _ _ _).mono ?_
  rintro e w1 ⟨rfl, rfl⟩
  rw [Hd2.out]
  go_wp2_with fail
  refine (f49_c a b l.length c O.length d l O x y w0 (hl.ext hEb) (hO.ext hEb) rfl rfl hlen hlm).mono ?_
  rintro e w2 ⟨v, rfl, hv, hX2⟩
  have hE2 := hEb.trans' hX2
  clear g0 g1 hz
  have g0 := (HB.out.ext hX2).cellv 0 (v := .int .i64 x) rfl
  have g1 := (HB.out.ext hX2).cellv 1 (v := .int .i64 y) rfl
  have hz := (HB.out.ext hX2).lt
  have Hv := Lib.hid hv
  clear hv
  go_wp2_with fail
  refine (f52_c a b l.length c O.length d l O x y w2 (hl.ext hE2) (hO.ext hE2) rfl rfl hlen hlm).mono ?_
  rintro e w3 ⟨v2, rfl, hv2, hX3⟩
  have hE3 := hE2.trans' hX3
  have hvv := least_same Hv.out hv2
  subst hvv
  have hv0 : (v == v) = true := by simp
  clear hv2 Hv g0 g1 hz
  generalize errOf (okShared l x y O) = E at *
  go_wp2_with fail
  refine (f17_c _).mono ?_
  rintro e w4 ⟨rfl, hX4⟩
  go_wp2_with fail
  go_ret
  exact ⟨rfl, hE3.trans' hX4⟩
end Go.Proofs.Ytodlbgncdggimaa
