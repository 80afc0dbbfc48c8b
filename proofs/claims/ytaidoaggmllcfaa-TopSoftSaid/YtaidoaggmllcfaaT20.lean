/- Contracts of layer 6: Repair, of the program and of the reference. -/
import Derived.Test.YtaidoaggmllcfaaT19
namespace Go.Proofs.Ytaidoaggmllcfaa
open Go.RowKit
attribute [local go_sem] GW.cell

def repairV (x y : List Int) (t : Tbl) : Tbl := if grErr x y t = 0 then repV x.length y.length x y t else []
theorem repV_len {x y : List Int} {t : Tbl} (h : grErr x y t = 0) : TOk x.length y.length 0 30000 (repV x.length y.length x y t) := by
  obtain ⟨h1, h2, _, h4⟩ := grErr_ok h
  exact rep_tight (grB_ok h4) (massB_ok h1).2.2 (massB_ok h2).2.2

set_option maxHeartbeats 4000000 in
theorem f51_c (ax bx a : Option Addr) (na nb n c ca cb : Nat) (x y : List Int) (t : Tbl) (w : World) (hx : Ints w ax x) (hxn : x.length = na) (hxl : na ≤ 1000000) (hy : Ints w bx y) (hyn : y.length = nb) (hyl : nb ≤ 1000000) (hl : Table w a t) (hn : t.length = n) (hlen : n ≤ 1000000) (hin : ∀ j, (hj : j < t.length) → t[j].length ≤ 1000000) :
    Calls Try.prog 51 #[.slice ax na ca, .slice bx nb cb, .slice a n c] w (RetTE 31 (repairV x y t) (grErr x y t) w) := by
  have C1 := f91_c ax bx a na nb n c ca cb x y t w hx hxn hxl hy hyn hyl hl hn hlen hin
  by_cases h0 : grErr x y t = 0
  case neg =>
    have d1 : (grErr x y t != 0) = true := by simp [h0]
    rw [show repairV x y t = [] by unfold repairV; rw [if_neg h0]]
    clear h0
    have C1 := Lib.hid C1
    generalize grErr x y t = E at *
    go_enter Try.func51, Try.ntmps51
    go_wp2_with fail
    refine C1.out.mono ?_
    rintro e w1 ⟨rfl, hE1⟩
    go_wp2_with fail
    go_ret2
    exact retTE_nil hE1
  obtain ⟨h1, h2, h3, h4⟩ := grErr_ok h0
  have HT := grB_ok h4
  have hxb := (massB_ok h1).2.2
  have hyb := (massB_ok h2).2.2
  have hn' := HT.len
  have C2 := Lib.hid (fun W (h : Ext w W) => f81_c ax bx a x.length y.length c ca cb x y t W (hx.ext h) rfl hxb (hy.ext h) rfl hyb (hl.ext h) HT)
  rw [show repairV x y t = repV x.length y.length x y t by unfold repairV; rw [if_pos h0]]
  rw [h0] at C1 ⊢
  have C1 := Lib.hid C1
  subst hn hxn hyn
  rw [hn'] at C1 ⊢
  clear h0 h1 h2 h3 h4 HT hxb hyb hin hn'
  generalize repV x.length y.length x y t = V at *
  go_enter Try.func51, Try.ntmps51
  go_wp2_with fail
  refine C1.out.mono ?_
  rintro e w1 ⟨rfl, hE1⟩
  go_wp2_with fail
  refine (C2.out _ hE1).mono ?_
  rintro e w2 ⟨v, rfl, hT, hE2⟩
  obtain ⟨a8, c8, e8, _⟩ := hT.table
  subst e8
  have hR := Lib.hid (retTE_mk (e := 0) hE1 hT hE2)
  clear hT
  go_wp2_with fail
  go_ret2
  exact hR.out

set_option maxHeartbeats 4000000 in
theorem f52_c (ax bx a : Option Addr) (na nb n c ca cb : Nat) (x y : List Int) (t : Tbl) (w : World) (hx : Ints w ax x) (hxn : x.length = na) (hxl : na ≤ 1000000) (hy : Ints w bx y) (hyn : y.length = nb) (hyl : nb ≤ 1000000) (hl : Table w a t) (hn : t.length = n) (hlen : n ≤ 1000000) (hin : ∀ j, (hj : j < t.length) → t[j].length ≤ 1000000) :
    Calls Try.prog 52 #[.slice ax na ca, .slice bx nb cb, .slice a n c] w (RetTE 31 (repairV x y t) (grErr x y t) w) := by
  have C1 := f93_c ax bx a na nb n c ca cb x y t w hx hxn hxl hy hyn hyl hl hn hlen hin
  by_cases h0 : grErr x y t = 0
  case neg =>
    have d1 : (grErr x y t != 0) = true := by simp [h0]
    rw [show repairV x y t = [] by unfold repairV; rw [if_neg h0]]
    clear h0
    have C1 := Lib.hid C1
    generalize grErr x y t = E at *
    go_enter Try.func52, Try.ntmps52
    go_wp2_with fail
    refine C1.out.mono ?_
    rintro e w1 ⟨rfl, hE1⟩
    go_wp2_with fail
    go_ret2
    exact retTE_nil hE1
  obtain ⟨h1, h2, h3, h4⟩ := grErr_ok h0
  have HT := grB_ok h4
  have hxb := (massB_ok h1).2.2
  have hyb := (massB_ok h2).2.2
  have hn' := HT.len
  have C2 := Lib.hid (fun W (h : Ext w W) => f97_c ax bx a x.length y.length c ca cb x y t W (hx.ext h) rfl hxb (hy.ext h) rfl hyb (hl.ext h) HT)
  rw [show repairV x y t = repV x.length y.length x y t by unfold repairV; rw [if_pos h0]]
  rw [h0] at C1 ⊢
  have C1 := Lib.hid C1
  subst hn hxn hyn
  rw [hn'] at C1 ⊢
  clear h0 h1 h2 h3 h4 HT hxb hyb hin hn'
  generalize repV x.length y.length x y t = V at *
  go_enter Try.func52, Try.ntmps52
  go_wp2_with fail
  refine C1.out.mono ?_
  rintro e w1 ⟨rfl, hE1⟩
  go_wp2_with fail
  refine (C2.out _ hE1).mono ?_
  rintro e w2 ⟨v, rfl, hT, hE2⟩
  obtain ⟨a8, c8, e8, _⟩ := hT.table
  subst e8
  have hR := Lib.hid (retTE_mk (e := 0) hE1 hT hE2)
  clear hT
  go_wp2_with fail
  go_ret2
  exact hR.out

end Go.Proofs.Ytaidoaggmllcfaa
