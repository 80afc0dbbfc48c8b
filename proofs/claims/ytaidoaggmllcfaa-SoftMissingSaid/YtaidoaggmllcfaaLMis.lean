/- The law of what is missing, walked. -/
import Derived.Test.YtaidoaggmllcfaaT11
import Derived.Test.YtaidoaggmllcfaaLFit
namespace Go.Proofs.Ytaidoaggmllcfaa
open Go.RowKit
attribute [local go_sem] GW.cell

set_option maxRecDepth 20000 in
set_option maxHeartbeats 4000000 in
theorem missing_walk (w : World) (ax : Option Addr) (na ca : Nat) (x : List Int) (hx : Ints w ax x) (hxn : x.length = na) (bx : Option Addr) (nb cb : Nat) (y : List Int) (hy : Ints w bx y) (hyn : y.length = nb)
    (a : Option Addr) (len cap : Nat) (t : Tbl) (hl : Table w a t) (hn : t.length = len) (hlen : len ≤ 9223372036854775807) :
    Calls Try.prog 8 #[.agg #[.slice ax na ca, .slice bx nb cb], .slice a len cap] w fun e w' => e = .returned (.bool true) ∧ Below w.heap.size w w' := by
  have hE0 := ext_alloc w (.cells #[.slice ax na ca, .slice bx nb cb] 33)
  have HB := Lib.hid (BlkC.new w #[.slice ax na ca, .slice bx nb cb] 33)
  have hlt := HB.out.lt
  have C13 := f13_c a len cap t _ (hl.ext hE0) hn hlen
  have C20 := Lib.hid (fun W => f20_c ax bx na ca nb cb W)
  have hc0 := HB.out.cellv 0 (v := .slice ax na ca) rfl
  have hc1 := HB.out.cellv 1 (v := .slice bx nb cb) rfl
  have C13 := Lib.hid C13
  by_cases hw : wideB t = false ∧ na ≤ 50 ∧ nb ≤ 50
  · obtain ⟨hw1, ha, hb⟩ := hw
    obtain ⟨h1, hin⟩ := wide_in hw1
    rw [hw1] at C13
    have d1 : (decide (50 < na) || decide (50 < nb)) = false := by simp; omega
    have C42 := Lib.hid (fun W (h : Ext w W) => f42_c ax bx a na nb len cap ca cb x y t W (hx.ext h) hxn (by omega) (hy.ext h) hyn (by omega) (hl.ext h) hn (by omega) hin)
    have C43 := Lib.hid (fun W (h : Ext w W) => f43_c ax bx a na nb len cap ca cb x y t W (hx.ext h) hxn (by omega) (hy.ext h) hyn (by omega) (hl.ext h) hn (by omega) hin)
    have C44 := Lib.hid (fun W (h : Ext w W) => f44_c ax bx a na nb len cap ca cb x y t W (hx.ext h) hxn (by omega) (hy.ext h) hyn (by omega) (hl.ext h) hn (by omega) hin)
    have C45 := Lib.hid (fun W (h : Ext w W) => f45_c ax bx a na nb len cap ca cb x y t W (hx.ext h) hxn (by omega) (hy.ext h) hyn (by omega) (hl.ext h) hn (by omega) hin)
    have hwb : (wholeB x y t = ((grErr x y t == 0) && (missV x y t == 0))) := by
      unfold wholeB missV
      by_cases h : grErr x y t = 0
      · rw [if_pos h, Bool.eq_iff_iff]; simp [h]
      · rw [if_neg h]; simp [h]
    clear hin hw1 hxn hyn hn hl hx hy
    generalize wholeB x y t = WB at *
    generalize missV x y t = MV at *
    generalize grErr x y t = E at *
    have fin : (WB == ((E == 0) && (MV == 0))) = true := by simp [hwb]
    by_cases he : E = 0
    · have de : (E == 0) = true := by simp [he]
      have df : (WB == (MV == 0)) = true := by rw [hwb, de]; simp
      clear hwb he fin
      go_enter Try.func8, Try.ntmps8
      go_wp2_with fail
      generalize w.alloc (.cells #[.slice ax na ca, .slice bx nb cb] 33) = w0 at *
      go_wp2_with (first | (go_at_call 13; refine C13.out.mono ?_; rintro e w' ⟨rfl, rfl⟩) | (go_at_call 20; refine (C20.out _).mono ?_; rintro e w' ⟨rfl, rfl⟩))
      refine (C42.out _ hE0).mono ?_
      rintro e w1 ⟨rfl, hX1⟩
      have hE1 := hE0.trans' hX1
      have hc0 := (HB.out.ext hX1).cellv 0 (v := .slice ax na ca) rfl
      have hc1 := (HB.out.ext hX1).cellv 1 (v := .slice bx nb cb) rfl
      go_wp2_with fail
      refine (C43.out _ hE1).mono ?_
      rintro e w2 ⟨rfl, hX2⟩
      have hE2 := hE1.trans' hX2
      have hX2 := hX1.trans' hX2
      have hc0 := (HB.out.ext hX2).cellv 0 (v := .slice ax na ca) rfl
      have hc1 := (HB.out.ext hX2).cellv 1 (v := .slice bx nb cb) rfl
      go_wp2_with fail
      refine (C44.out _ hE2).mono ?_
      rintro e w3 ⟨rfl, hX3⟩
      have hE3 := hE2.trans' hX3
      have hX3 := hX2.trans' hX3
      have hc0 := (HB.out.ext hX3).cellv 0 (v := .slice ax na ca) rfl
      have hc1 := (HB.out.ext hX3).cellv 1 (v := .slice bx nb cb) rfl
      go_wp2_with fail
      refine (C45.out _ hE3).mono ?_
      rintro e w4 ⟨rfl, hX4⟩
      have hE4 := hE3.trans' hX4
      go_wp2_with fail
      refine (f14_c _).mono ?_
      rintro e w5 ⟨rfl, hX5⟩
      go_wp2_with fail
      go_ret
      exact ⟨rfl, hE4.trans' hX5⟩
    · have de : (E == 0) = false := by simp [he]
      have df : (WB == false) = true := by rw [hwb, de]; simp
      have df2 : WB = false := by rw [hwb, de]; simp
      subst df2
      clear hwb he fin df
      go_enter Try.func8, Try.ntmps8
      go_wp2_with fail
      generalize w.alloc (.cells #[.slice ax na ca, .slice bx nb cb] 33) = w0 at *
      go_wp2_with (first | (go_at_call 13; refine C13.out.mono ?_; rintro e w' ⟨rfl, rfl⟩) | (go_at_call 20; refine (C20.out _).mono ?_; rintro e w' ⟨rfl, rfl⟩))
      refine (C42.out _ hE0).mono ?_
      rintro e w1 ⟨rfl, hX1⟩
      have hE1 := hE0.trans' hX1
      have hc0 := (HB.out.ext hX1).cellv 0 (v := .slice ax na ca) rfl
      have hc1 := (HB.out.ext hX1).cellv 1 (v := .slice bx nb cb) rfl
      go_wp2_with fail
      refine (C43.out _ hE1).mono ?_
      rintro e w2 ⟨rfl, hX2⟩
      have hE2 := hE1.trans' hX2
      have hX2 := hX1.trans' hX2
      have hc0 := (HB.out.ext hX2).cellv 0 (v := .slice ax na ca) rfl
      have hc1 := (HB.out.ext hX2).cellv 1 (v := .slice bx nb cb) rfl
      go_wp2_with fail
      refine (C44.out _ hE2).mono ?_
      rintro e w3 ⟨rfl, hX3⟩
      have hE3 := hE2.trans' hX3
      have hX3 := hX2.trans' hX3
      have hc0 := (HB.out.ext hX3).cellv 0 (v := .slice ax na ca) rfl
      have hc1 := (HB.out.ext hX3).cellv 1 (v := .slice bx nb cb) rfl
      go_wp2_with fail
      refine (C45.out _ hE3).mono ?_
      rintro e w4 ⟨rfl, hX4⟩
      have hE4 := hE3.trans' hX4
      go_wp2_with fail
      refine (f14_c _).mono ?_
      rintro e w5 ⟨rfl, hX5⟩
      go_wp2_with fail
      go_ret
      exact ⟨rfl, hE4.trans' hX5⟩
  · cases hw1 : wideB t
    · have d1 : (decide (50 < na) || decide (50 < nb)) = true := by simp [hw1] at hw; simp; omega
      rw [hw1] at C13
      clear hw hw1
      go_enter Try.func8, Try.ntmps8
      go_wp2_with fail
      generalize w.alloc (.cells #[.slice ax na ca, .slice bx nb cb] 33) = w0 at *
      go_wp2_with (first | (go_at_call 13; refine C13.out.mono ?_; rintro e w' ⟨rfl, rfl⟩) | (go_at_call 20; refine (C20.out _).mono ?_; rintro e w' ⟨rfl, rfl⟩))
      refine (f14_c _).mono ?_
      rintro e w4 ⟨rfl, hX4⟩
      go_wp2_with fail
      go_ret
      exact ⟨rfl, hE0.trans' hX4⟩
    · rw [hw1] at C13
      clear hw hw1
      go_enter Try.func8, Try.ntmps8
      go_wp2_with fail
      generalize w.alloc (.cells #[.slice ax na ca, .slice bx nb cb] 33) = w0 at *
      go_wp2_with (first | (go_at_call 13; refine C13.out.mono ?_; rintro e w' ⟨rfl, rfl⟩) | (go_at_call 20; refine (C20.out _).mono ?_; rintro e w' ⟨rfl, rfl⟩))
      refine (f14_c _).mono ?_
      rintro e w4 ⟨rfl, hX4⟩
      go_wp2_with fail
      go_ret
      exact ⟨rfl, hE0.trans' hX4⟩

end Go.Proofs.Ytaidoaggmllcfaa
