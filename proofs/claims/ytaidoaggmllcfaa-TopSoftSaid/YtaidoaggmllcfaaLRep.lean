/- The law of repairs, walked. -/
import Derived.Test.YtaidoaggmllcfaaT20
namespace Go.Proofs.Ytaidoaggmllcfaa
open Go.RowKit
attribute [local go_sem] GW.cell

theorem repairV_small (x y : List Int) (t : Tbl) : (repairV x y t).length ≤ 1000000 ∧ ∀ j, (hj : j < (repairV x y t).length) → (repairV x y t)[j].length ≤ 1000000 := by
  unfold repairV
  split
  · next h =>
    have := repV_len h
    refine ⟨by rw [this.len]; have := this.n5; omega, fun j hj => ?_⟩
    rw [← row_at hj, this.cols j (by rw [← this.len]; exact hj)]
    have := this.m5; omega
  · simp
/-- a repaired table is whole, and is not changed by a repair -/
theorem repair_law {x y : List Int} {t : Tbl} (h : grErr x y t = 0) : grErr x y (repairV x y t) = 0 ∧ wholeB x y (repairV x y t) = true ∧ repairV x y (repairV x y t) = repairV x y t := by
  have e : repairV x y t = repV x.length y.length x y t := by unfold repairV; rw [if_pos h]
  have ht := repV_len h
  obtain ⟨h1, h2, h3, h4⟩ := grErr_ok h
  obtain ⟨z1, z2⟩ := rep_whole (grB_ok h4) (massB_ok h1).2.2 (massB_ok h2).2.2 rfl rfl h3
  rw [e]
  have hg : grErr x y (repV x.length y.length x y t) = 0 := grErr_of h1 h2 h3 (ht.weak (by omega))
  refine ⟨hg, ?_, ?_⟩
  · unfold wholeB
    rw [hg, lacks_none z1 z2]; rfl
  · unfold repairV
    rw [if_pos hg]
    exact rep_same (ht.weak (by omega)) z1 z2
set_option maxRecDepth 20000 in
set_option maxHeartbeats 8000000 in
theorem repairs_walk (w : World) (ax : Option Addr) (na ca : Nat) (x : List Int) (hx : Ints w ax x) (hxn : x.length = na) (bx : Option Addr) (nb cb : Nat) (y : List Int) (hy : Ints w bx y) (hyn : y.length = nb)
    (a : Option Addr) (len cap : Nat) (t : Tbl) (hl : Table w a t) (hn : t.length = len) (hlen : len ≤ 9223372036854775807) :
    Calls Try.prog 10 #[.agg #[.slice ax na ca, .slice bx nb cb], .slice a len cap] w fun e w' => e = .returned (.bool true) ∧ Below w.heap.size w w' := by
  have hE0 := ext_alloc w (.cells #[.slice ax na ca, .slice bx nb cb] 33)
  have HB := Lib.hid (BlkC.new w #[.slice ax na ca, .slice bx nb cb] 33)
  have hlt := HB.out.lt
  have C13 := f13_c a len cap t _ (hl.ext hE0) hn hlen
  have C20 := Lib.hid (fun W => f20_c ax bx na ca nb cb W)
  have hc0 := HB.out.cellv 0 (v := .slice ax na ca) rfl
  have hc1 := HB.out.cellv 1 (v := .slice bx nb cb) rfl
  have C13 := Lib.hid C13
  by_cases hw : wideB t = false ∧ na ≤ 50 ∧ nb ≤ 50
  case neg =>
    cases hw1 : wideB t
    · have d1 : (decide (50 < na) || decide (50 < nb)) = true := by simp [hw1] at hw; simp; omega
      rw [hw1] at C13
      clear hw hw1
      go_enter Try.func10, Try.ntmps10
      go_wp2_with fail
      generalize w.alloc (.cells #[.slice ax na ca, .slice bx nb cb] 33) = w0 at *
      go_wp2_with (first | (go_at_call 13; refine C13.out.mono ?_; rintro e w' ⟨rfl, rfl⟩) | (go_at_call 20; refine (C20.out _).mono ?_; rintro e w' ⟨rfl, rfl⟩))
      refine (f14_c _).mono ?_
      rintro e w4 ⟨rfl, hX4⟩
      go_wp2_with fail
      go_ret
      exact ⟨rfl, hE0.trans' hX4⟩
    · rw [hw1] at C13
      clear hw hw1
      go_enter Try.func10, Try.ntmps10
      go_wp2_with fail
      generalize w.alloc (.cells #[.slice ax na ca, .slice bx nb cb] 33) = w0 at *
      go_wp2_with (first | (go_at_call 13; refine C13.out.mono ?_; rintro e w' ⟨rfl, rfl⟩) | (go_at_call 20; refine (C20.out _).mono ?_; rintro e w' ⟨rfl, rfl⟩))
      refine (f14_c _).mono ?_
      rintro e w4 ⟨rfl, hX4⟩
      go_wp2_with fail
      go_ret
      exact ⟨rfl, hE0.trans' hX4⟩
  obtain ⟨hw1, ha, hb⟩ := hw
  obtain ⟨h1, hin⟩ := wide_in hw1
  rw [hw1] at C13
  have d1 : (decide (50 < na) || decide (50 < nb)) = false := by simp; omega
  have hlen1 : len ≤ 1000000 := by omega
  have Hn := Lib.hid hn
  obtain ⟨hr1, hr2⟩ := repairV_small x y t
  have C21 := Lib.hid (fun W (h : Ext w W) => f21_c a len cap t W (hl.ext h) hn hlen1 hin)
  have C51 := Lib.hid (fun A c W (h1 : Table W A t) (h : Ext w W) => f51_c ax bx A na nb len c ca cb x y t W (hx.ext h) hxn (by omega) (hy.ext h) hyn (by omega) h1 hn hlen1 hin)
  have C52 := Lib.hid (fun W (h : Ext w W) => f52_c ax bx a na nb len cap ca cb x y t W (hx.ext h) hxn (by omega) (hy.ext h) hyn (by omega) (hl.ext h) hn hlen1 hin)
  have C19t := Lib.hid (fun A1 A2 c1 c2 W (h1 : Table W A1 t) (h2 : Table W A2 t) => f19_c A1 A2 len c1 len c2 t t W h1 h2 hn hn hlen1 hlen1 hin hin)
  rw [sameT_rfl] at C19t
  have C19 := Lib.hid (fun A1 A2 c1 c2 W (h1 : Table W A1 (repairV x y t)) (h2 : Table W A2 (repairV x y t)) => f19_c A1 A2 (repairV x y t).length c1 (repairV x y t).length c2 (repairV x y t) (repairV x y t) W h1 h2 rfl rfl hr1 hr1 hr2 hr2)
  rw [sameT_rfl] at C19
  have C44 := fun A c W (h1 : Table W A (repairV x y t)) (h : Ext w W) => f44_c ax bx A na nb (repairV x y t).length c ca cb x y (repairV x y t) W (hx.ext h) hxn (by omega) (hy.ext h) hyn (by omega) h1 rfl hr1 hr2
  have C51r := fun A c W (h1 : Table W A (repairV x y t)) (h : Ext w W) => f51_c ax bx A na nb (repairV x y t).length c ca cb x y (repairV x y t) W (hx.ext h) hxn (by omega) (hy.ext h) hyn (by omega) h1 rfl hr1 hr2
  by_cases he : grErr x y t = 0
  · obtain ⟨l1, l2, l3⟩ := repair_law he
    rw [l1, l2] at C44
    rw [l1, l3] at C51r
    rw [he] at C51 C52
    have C44 := Lib.hid C44
    have C51r := Lib.hid C51r
    clear he l1 l2 l3 hin hr1 hr2 hw1 h1 hn hxn hyn hx hy
    generalize repairV x y t = K at *
    go_enter Try.func10, Try.ntmps10
    go_wp2_with fail
    generalize w.alloc (.cells #[.slice ax na ca, .slice bx nb cb] 33) = w0 at *
    go_wp2_with (first | (go_at_call 13; refine C13.out.mono ?_; rintro e w' ⟨rfl, rfl⟩) | (go_at_call 20; refine (C20.out _).mono ?_; rintro e w' ⟨rfl, rfl⟩))
    refine (C21.out _ hE0).mono ?_
    rintro e w1 ⟨vo, rfl, hTo, hX1⟩
    obtain ⟨ao, co, rfl, hTo'⟩ := hTo.table
    rw [Hn.out]
    have HTo := Lib.hid hTo'
    clear hTo hTo'
    have hE1 := hE0.trans' hX1
    have hc0 := (HB.out.ext hX1).cellv 0 (v := .slice ax na ca) rfl
    have hc1 := (HB.out.ext hX1).cellv 1 (v := .slice bx nb cb) rfl
    have hlt1 := (HB.out.ext hX1).lt
    go_wp2_with fail
    refine (C51.out _ _ _ HTo.out hE1).mono ?_
    rintro e w2 hR
    obtain ⟨a2, c2, rfl, hT2, hX2⟩ := hR.open_
    have HT2 := Lib.hid hT2
    clear hR hT2
    have hE2 := hE1.trans' hX2
    have hX02 := hX1.trans' hX2
    have hc0 := (HB.out.ext hX02).cellv 0 (v := .slice ax na ca) rfl
    have hc1 := (HB.out.ext hX02).cellv 1 (v := .slice bx nb cb) rfl
    go_wp2_with fail
    refine (C52.out _ hE2).mono ?_
    rintro e w3 hR
    obtain ⟨a3, c3, rfl, hT3, hX3⟩ := hR.open_
    have HT3 := Lib.hid hT3
    clear hR hT3
    have hE3 := hE2.trans' hX3
    go_wp2_with fail
    refine (C19.out _ _ _ _ _ (HT2.out.ext hX3) HT3.out).mono ?_
    rintro e w4 ⟨rfl, hX4⟩
    have hE4 := hE3.trans' hX4
    have hX24 := hX3.trans' hX4
    have hX04 := hX02.trans' hX24
    have hX14 := hX2.trans' hX24
    have hc0 := (HB.out.ext hX04).cellv 0 (v := .slice ax na ca) rfl
    have hc1 := (HB.out.ext hX04).cellv 1 (v := .slice bx nb cb) rfl
    have HT4 := Lib.hid (HT2.out.ext hX24)
    go_wp2_with fail
    refine (C44.out _ _ _ HT4.out hE4).mono ?_
    rintro e w5 ⟨rfl, hX5⟩
    have hE5 := hE4.trans' hX5
    have hX05 := hX04.trans' hX5
    have hc0 := (HB.out.ext hX05).cellv 0 (v := .slice ax na ca) rfl
    have hc1 := (HB.out.ext hX05).cellv 1 (v := .slice bx nb cb) rfl
    have HT5 := Lib.hid (HT4.out.ext hX5)
    go_wp2_with fail
    refine (C51r.out _ _ _ HT5.out hE5).mono ?_
    rintro e w6 hR
    obtain ⟨a6, c6, rfl, hT6, hX6⟩ := hR.open_
    have HT6 := Lib.hid hT6
    clear hR hT6
    have hE6 := hE5.trans' hX6
    have hX16 := hX14.trans' (hX5.trans' hX6)
    go_wp2_with fail
    refine (C19.out _ _ _ _ _ HT6.out (HT5.out.ext hX6)).mono ?_
    rintro e w7 ⟨rfl, hX7⟩
    have hE7 := hE6.trans' hX7
    go_wp2_with fail
    refine (C19t.out _ _ _ _ _ (HTo.out.ext (hX16.trans' hX7)) (hl.ext hE7)).mono ?_
    rintro e w8 ⟨rfl, hX8⟩
    have hE8 := hE7.trans' hX8
    go_wp2_with fail
    refine (f14_c _).mono ?_
    rintro e w9 ⟨rfl, hX9⟩
    go_wp2_with fail
    go_ret
    exact ⟨rfl, hE8.trans' hX9⟩
  · have de : (grErr x y t != 0) = true := by simp [he]
    clear he C44 C51r hin hr1 hr2 hw1 h1 hn hxn hyn hx hy
    generalize repairV x y t = K at *
    generalize grErr x y t = E at *
    go_enter Try.func10, Try.ntmps10
    go_wp2_with fail
    generalize w.alloc (.cells #[.slice ax na ca, .slice bx nb cb] 33) = w0 at *
    go_wp2_with (first | (go_at_call 13; refine C13.out.mono ?_; rintro e w' ⟨rfl, rfl⟩) | (go_at_call 20; refine (C20.out _).mono ?_; rintro e w' ⟨rfl, rfl⟩))
    refine (C21.out _ hE0).mono ?_
    rintro e w1 ⟨vo, rfl, hTo, hX1⟩
    obtain ⟨ao, co, rfl, hTo'⟩ := hTo.table
    rw [Hn.out]
    have HTo := Lib.hid hTo'
    clear hTo hTo'
    have hE1 := hE0.trans' hX1
    have hc0 := (HB.out.ext hX1).cellv 0 (v := .slice ax na ca) rfl
    have hc1 := (HB.out.ext hX1).cellv 1 (v := .slice bx nb cb) rfl
    have hlt1 := (HB.out.ext hX1).lt
    go_wp2_with fail
    refine (C51.out _ _ _ HTo.out hE1).mono ?_
    rintro e w2 hR
    obtain ⟨a2, c2, rfl, hT2, hX2⟩ := hR.open_
    have HT2 := Lib.hid hT2
    clear hR hT2
    have hE2 := hE1.trans' hX2
    have hX02 := hX1.trans' hX2
    have hc0 := (HB.out.ext hX02).cellv 0 (v := .slice ax na ca) rfl
    have hc1 := (HB.out.ext hX02).cellv 1 (v := .slice bx nb cb) rfl
    go_wp2_with fail
    refine (C52.out _ hE2).mono ?_
    rintro e w3 hR
    obtain ⟨a3, c3, rfl, hT3, hX3⟩ := hR.open_
    have HT3 := Lib.hid hT3
    clear hR hT3
    have hE3 := hE2.trans' hX3
    go_wp2_with fail
    refine (C19.out _ _ _ _ _ (HT2.out.ext hX3) HT3.out).mono ?_
    rintro e w4 ⟨rfl, hX4⟩
    have hE4 := hE3.trans' hX4
    go_wp2_with fail
    refine (f14_c _).mono ?_
    rintro e w9 ⟨rfl, hX9⟩
    go_wp2_with fail
    go_ret
    exact ⟨rfl, hE4.trans' hX9⟩

end Go.Proofs.Ytaidoaggmllcfaa
