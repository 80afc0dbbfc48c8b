/- A load's numbers, walked. -/
import Derived.Test.YtfhgnmijigdlmaaT26
namespace Go.Proofs.Ytfhgnmijigdlmaa
open Go.RowKit
attribute [local go_sem] GW.cell
set_option maxRecDepth 20000 in
set_option maxHeartbeats 16000000 in
theorem loads_walk (w : World) (a1 : Option Addr) (n1 c1 : Nat) (l1 : List Atom) (hl1 : Atoms w a1 l1) (hn1 : l1.length = n1) (p q : Int) :
    Calls Try.prog 13 #[.slice a1 n1 c1, .agg #[.int .i64 p, .int .i64 q]] w fun e w' => e = .returned (.bool true) ∧ Below w.heap.size w w' := by
  have hE0 := ext_alloc w (.cells #[.int .i64 p, .int .i64 q] 56)
  have HB := Lib.hid (BlkC.new w #[.int .i64 p, .int .i64 q] 56)
  have k0 := HB.out.cellv 0 (v := .int .i64 p) rfl
  have k1 := HB.out.cellv 1 (v := .int .i64 q) rfl
  cases hL : longB n1 0
  case true =>
    clear hn1
    go_enter Try.func13, Try.ntmps13
    go_wp2_with fail
    generalize w.alloc (.cells #[.int .i64 p, .int .i64 q] 56) = w0 at *
    refine (f18_c _ _ _ _ _ _ _).mono ?_
    rintro e w' ⟨rfl, rfl⟩
    rw [hL]
    go_wp2_with fail
    refine (f19_c _).mono ?_
    rintro e w9 ⟨rfl, hE9⟩
    go_wp2_with fail
    go_ret
    exact ⟨rfl, hE0.trans' hE9⟩
  obtain ⟨b1, b2⟩ := longB_no hL
  have C1 := Lib.hid (fun W (h : Ext w W) => f31_c a1 n1 c1 l1 W (hl1.ext h) hn1 (by omega))
  have C2 := Lib.hid (fun W (h : Ext w W) => f44_c a1 n1 c1 l1 W (hl1.ext h) hn1 (by omega))
  have C3 := Lib.hid (fun W (h : Ext w W) => f42_c a1 n1 c1 l1 p W (hl1.ext h) hn1 (by omega))
  have C4 := Lib.hid (fun W (h : Ext w W) => f45_c a1 n1 c1 l1 p W (hl1.ext h) hn1 (by omega))
  have C5 := Lib.hid (fun W (h : Ext w W) => f41_c a1 n1 c1 l1 q W (hl1.ext h) hn1 (by omega))
  have C6 := Lib.hid (fun W (h : Ext w W) => f46_c a1 n1 c1 l1 q W (hl1.ext h) hn1 (by omega))
  have C7 := Lib.hid (fun W (h : Ext w W) => f47_c a1 n1 c1 l1 W (hl1.ext h) hn1 (by omega))
  have C8 := Lib.hid (fun W (h : Ext w W) => f48_c a1 n1 c1 l1 W (hl1.ext h) hn1 (by omega))
  clear hn1
  generalize totV l1 = V1 at *
  generalize belV l1 p = V2 at *
  generalize plcV l1 q = V3 at *
  generalize plcErr l1 q = V4 at *
  generalize valLoad l1 = V5 at *
  go_enter Try.func13, Try.ntmps13
  go_wp2_with fail
  generalize w.alloc (.cells #[.int .i64 p, .int .i64 q] 56) = w0 at *
  go_wp2_with fail
  refine (f18_c _ _ _ _ _ _ _).mono ?_
  rintro e w' ⟨rfl, rfl⟩
  rw [hL]
  go_wp2_with fail
  refine (C1.out _ hE0).mono ?_
  rintro e w1 ⟨rfl, hX1⟩
  have hE1 := hE0.trans' hX1
  have k0 := (HB.out.ext hX1).cellv 0 (v := .int .i64 p) rfl
  have k1 := (HB.out.ext hX1).cellv 1 (v := .int .i64 q) rfl
  go_wp2_with fail
  refine (C2.out _ hE1).mono ?_
  rintro e w2 ⟨rfl, hX2⟩
  have hE2 := hE1.trans' hX2
  have hY2 := hX1.trans' hX2
  have k0 := (HB.out.ext hY2).cellv 0 (v := .int .i64 p) rfl
  have k1 := (HB.out.ext hY2).cellv 1 (v := .int .i64 q) rfl
  go_wp2_with fail
  refine (C3.out _ hE2).mono ?_
  rintro e w3 ⟨rfl, hX3⟩
  have hE3 := hE2.trans' hX3
  have hY3 := hY2.trans' hX3
  have k0 := (HB.out.ext hY3).cellv 0 (v := .int .i64 p) rfl
  have k1 := (HB.out.ext hY3).cellv 1 (v := .int .i64 q) rfl
  go_wp2_with fail
  refine (C4.out _ hE3).mono ?_
  rintro e w4 ⟨rfl, hX4⟩
  have hE4 := hE3.trans' hX4
  have hY4 := hY3.trans' hX4
  have k0 := (HB.out.ext hY4).cellv 0 (v := .int .i64 p) rfl
  have k1 := (HB.out.ext hY4).cellv 1 (v := .int .i64 q) rfl
  go_wp2_with fail
  refine (C5.out _ hE4).mono ?_
  rintro e w5 ⟨rfl, hX5⟩
  have hE5 := hE4.trans' hX5
  have hY5 := hY4.trans' hX5
  have k0 := (HB.out.ext hY5).cellv 0 (v := .int .i64 p) rfl
  have k1 := (HB.out.ext hY5).cellv 1 (v := .int .i64 q) rfl
  go_wp2_with fail
  refine (C6.out _ hE5).mono ?_
  rintro e w6 ⟨rfl, hX6⟩
  have hE6 := hE5.trans' hX6
  have hY6 := hY5.trans' hX6
  have k0 := (HB.out.ext hY6).cellv 0 (v := .int .i64 p) rfl
  have k1 := (HB.out.ext hY6).cellv 1 (v := .int .i64 q) rfl
  go_wp2_with fail
  refine (C7.out _ hE6).mono ?_
  rintro e w7 ⟨rfl, hX7⟩
  have hE7 := hE6.trans' hX7
  have hY7 := hY6.trans' hX7
  have k0 := (HB.out.ext hY7).cellv 0 (v := .int .i64 p) rfl
  have k1 := (HB.out.ext hY7).cellv 1 (v := .int .i64 q) rfl
  go_wp2_with fail
  refine (C8.out _ hE7).mono ?_
  rintro e w8 ⟨rfl, hX8⟩
  have hE8 := hE7.trans' hX8
  have hY8 := hY7.trans' hX8
  have k0 := (HB.out.ext hY8).cellv 0 (v := .int .i64 p) rfl
  have k1 := (HB.out.ext hY8).cellv 1 (v := .int .i64 q) rfl
  go_wp2_with fail
  refine (f19_c _).mono ?_
  rintro e w9 ⟨rfl, hE9⟩
  go_wp2_with fail
  go_ret
  exact ⟨rfl, hE8.trans' hE9⟩

end Go.Proofs.Ytfhgnmijigdlmaa