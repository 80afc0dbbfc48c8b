/- Contracts of layer 6: the errors of tables in grains; Missing, IsWhole. -/
import Derived.Test.YtaidoaggmllcfaaT10
namespace Go.Proofs.Ytaidoaggmllcfaa
open Go.RowKit
attribute [local go_sem] GW.cell

def grB (x y : List Int) (t : Tbl) : Bool := tabB 0 150000 t && (decide (t.length = x.length) && decide ((row t 0).length = y.length))
theorem sized_gr {x y : List Int} {t : Tbl} (hx : 1 ≤ x.length ∧ x.length ≤ 5) (hy : 1 ≤ y.length ∧ y.length ≤ 5) : sizedB x.length y.length 0 150000 t = grB x y t := by
  rw [Bool.eq_iff_iff]
  constructor
  · intro h
    simp only [sizedB, Bool.and_eq_true, decide_eq_true_eq] at h
    have h0 : 0 < t.length := by omega
    have hr := (rowsB_at h.2 h0).1
    rw [← row_at h0] at hr
    simp only [grB, tabB, Bool.and_eq_true, decide_eq_true_eq]
    rw [hr]
    exact ⟨⟨by omega, by omega, by omega, by omega, h.2⟩, h.1, rfl⟩
  · intro h
    simp only [grB, tabB, Bool.and_eq_true, decide_eq_true_eq] at h
    simp only [sizedB, Bool.and_eq_true, decide_eq_true_eq]
    rw [← h.2.2]
    exact ⟨h.2.1, h.1.2.2.2.2⟩
def grErr (x y : List Int) (t : Tbl) : Int := if massB x && massB y then (if sm x = sm y then errOf (grB x y t) else 5) else 1
theorem grErr_ok {x y : List Int} {t : Tbl} (h : grErr x y t = 0) : massB x = true ∧ massB y = true ∧ sm x = sm y ∧ grB x y t = true := by
  unfold grErr at h
  split at h
  · next h1 =>
    rw [Bool.and_eq_true] at h1
    split at h
    · next h2 => exact ⟨h1.1, h1.2, h2, errOf_zero.1 h⟩
    · omega
  · omega
theorem grB_ok {x y : List Int} {t : Tbl} (h : grB x y t = true) : TOk x.length y.length 0 150000 t := by
  simp only [grB, Bool.and_eq_true, decide_eq_true_eq] at h
  have := tabB_ok h.1
  rw [h.2.1, h.2.2] at this
  exact this

set_option linter.unusedVariables false in
set_option maxHeartbeats 4000000 in
theorem f119_c (ax bx a : Option Addr) (na nb n c ca cb : Nat) (x y : List Int) (t : Tbl) (w : World) (hx : Ints w ax x) (hxn : x.length = na) (hxl : na ≤ 1000000) (hy : Ints w bx y) (hyn : y.length = nb) (hyl : nb ≤ 1000000) (hl : Table w a t) (hn : t.length = n) (hlen : n ≤ 1000000) (hin : ∀ j, (hj : j < t.length) → t[j].length ≤ 1000000) :
    Calls Try.prog 119 #[.slice ax na ca, .slice bx nb cb, .slice a n c] w fun e w' => e = .returned (.bool (grB x y t)) ∧ Ext w w' := by
  have C := f64_c a n c t 0 150000 w hl hn hlen hin
  cases h1 : tabB 0 150000 t
  · rw [h1] at C
    have C := Lib.hid C
    rw [show grB x y t = false by unfold grB; rw [h1]; rfl]
    clear h1
    go_enter Try.func119, Try.ntmps119
    go_wp2_with fail
    refine C.out.mono ?_
    rintro e w1 ⟨rfl, hE1⟩
    go_wp2_with fail
    go_ret
    exact ⟨rfl, hE1⟩
  rw [h1] at C
  have C := Lib.hid C
  have H0 := tabB_ok h1
  have hn1 := H0.n1
  obtain ⟨b0, o0, a0, c0, e0, hb0, hc0, hI0⟩ := hl 0 (by omega)
  subst e0
  rw [← row_at (by omega)] at hc0
  simp only [Nat.add_zero] at hc0
  have hg : grB x y t = (decide (t.length = x.length) && decide ((row t 0).length = y.length)) := by unfold grB; rw [h1]; rfl
  rw [hg]
  subst hn hxn hyn
  clear hI0 H0 h1 hg hin
  generalize (row t 0).length = M at *
  by_cases g1 : t.length = x.length
  · have d1 : ((t.length : Int) == (x.length : Int)) = true := by simp; omega
    by_cases g2 : M = y.length
    · have d2 : ((M : Int) == (y.length : Int)) = true := by simp; omega
      rw [show (decide (t.length = x.length) && decide (M = y.length)) = true by simp [g1, g2]]
      clear g1 g2
      go_enter Try.func119, Try.ntmps119
      go_wp2_with fail
      refine C.out.mono ?_
      rintro e w1 ⟨rfl, hE1⟩
      have hc2 := (hE1.cell' hb0).trans hc0
      go_wp2_with fail
      go_ret
      exact ⟨rfl, hE1⟩
    · have d2 : ((M : Int) == (y.length : Int)) = false := by simp; omega
      rw [show (decide (t.length = x.length) && decide (M = y.length)) = false by simp [g2]]
      clear g1 g2
      go_enter Try.func119, Try.ntmps119
      go_wp2_with fail
      refine C.out.mono ?_
      rintro e w1 ⟨rfl, hE1⟩
      have hc2 := (hE1.cell' hb0).trans hc0
      go_wp2_with fail
      go_ret
      exact ⟨rfl, hE1⟩
  · have d1 : ((t.length : Int) == (x.length : Int)) = false := by simp; omega
    rw [show (decide (t.length = x.length) && decide (M = y.length)) = false by simp [g1]]
    clear g1
    go_enter Try.func119, Try.ntmps119
    go_wp2_with fail
    refine C.out.mono ?_
    rintro e w1 ⟨rfl, hE1⟩
    have hc2 := (hE1.cell' hb0).trans hc0
    go_wp2_with fail
    go_ret
    exact ⟨rfl, hE1⟩

set_option maxHeartbeats 4000000 in
theorem f91_c (ax bx a : Option Addr) (na nb n c ca cb : Nat) (x y : List Int) (t : Tbl) (w : World) (hx : Ints w ax x) (hxn : x.length = na) (hxl : na ≤ 1000000) (hy : Ints w bx y) (hyn : y.length = nb) (hyl : nb ≤ 1000000) (hl : Table w a t) (hn : t.length = n) (hlen : n ≤ 1000000) (hin : ∀ j, (hj : j < t.length) → t[j].length ≤ 1000000) :
    Calls Try.prog 91 #[.slice ax na ca, .slice bx nb cb, .slice a n c] w fun e w' => e = .returned (.int .i64 (grErr x y t)) ∧ Ext w w' := by
  have C1 := fun W (h : Ext w W) => f66_c ax na ca x W (hx.ext h) hxn hxl
  have C2 := fun W (h : Ext w W) => f66_c bx nb cb y W (hy.ext h) hyn hyl
  unfold valM at C1 C2
  cases hv : (massB x && massB y)
  · have hr : orL [errOf (massB x), errOf (massB y)] = 1 := by
      revert hv
      cases massB x <;> cases massB y <;> simp [orL, errOf]
    rw [show grErr x y t = 1 by unfold grErr; rw [hv]; rfl]
    have C1 := Lib.hid C1
    have C2 := Lib.hid C2
    have Hr := Lib.hid hr
    clear hv hr
    generalize errOf (massB x) = e2 at *
    generalize errOf (massB y) = e3 at *
    go_enter Try.func91, Try.ntmps91
    go_wp2_with fail
    refine (C1.out _ (Below.refl _ _)).mono ?_
    rintro e w' ⟨rfl, rfl⟩
    go_wp2_with fail
    refine (C2.out _ (Below.refl _ _)).mono ?_
    rintro e w' ⟨rfl, rfl⟩
    go_wp2_with fail
    refine (f55_r 1 _ _ _ [e2, e3] _ (ints_new2 _ _ _ _ _ rfl) rfl (by simp) Hr.out).mono ?_
    rintro e w' ⟨rfl, rfl⟩
    go_wp2_with fail
    go_ret
    exact ⟨rfl, ext_alloc _ _⟩
  rw [Bool.and_eq_true] at hv
  obtain ⟨h1, h2⟩ := hv
  obtain ⟨hx1, hx5, hxb⟩ := massB_ok h1
  obtain ⟨hy1, hy5, hyb⟩ := massB_ok h2
  have hge : grErr x y t = if sm x = sm y then errOf (grB x y t) else 5 := by unfold grErr; rw [h1, h2]; rfl
  rw [hge]
  rw [h1, show errOf true = 0 from rfl] at C1
  rw [h2, show errOf true = 0 from rfl] at C2
  have C1 := Lib.hid C1
  have C2 := Lib.hid C2
  have C3 := Lib.hid (fun W (h : Ext w W) => f117_c ax na ca x W (hx.ext h) hxn (by omega) (fun j hj => by have := hxb j hj; omega))
  have C4 := Lib.hid (fun W (h : Ext w W) => f117_c bx nb cb y W (hy.ext h) hyn (by omega) (fun j hj => by have := hyb j hj; omega))
  have C5 := fun W (h : Ext w W) => f63_c a n c t x.length y.length 150000 W (hl.ext h) hn hlen hin
  rw [sized_gr ⟨hx1, hx5⟩ ⟨hy1, hy5⟩] at C5
  subst hxn hyn
  clear hge h1 h2 hin hxb hyb
  by_cases hs : sm x = sm y
  case neg =>
    have d1 : (sm x != sm y) = true := by simp [hs]
    rw [if_neg hs]
    clear hs C5
    generalize sm x = s1 at *
    generalize sm y = s2 at *
    go_enter Try.func91, Try.ntmps91
    go_wp2_with fail
    refine (C1.out _ (Below.refl _ _)).mono ?_
    rintro e w' ⟨rfl, rfl⟩
    go_wp2_with fail
    refine (C2.out _ (Below.refl _ _)).mono ?_
    rintro e w' ⟨rfl, rfl⟩
    go_wp2_with fail
    refine (f55_r 0 _ _ _ [0, 0] _ (ints_new2 _ _ _ _ _ rfl) rfl (by simp) rfl).mono ?_
    rintro e w' ⟨rfl, rfl⟩
    go_wp2_with fail
    refine (C3.out _ (ext_alloc _ _)).mono ?_
    rintro e w' ⟨rfl, rfl⟩
    go_wp2_with fail
    refine (C4.out _ (ext_alloc _ _)).mono ?_
    rintro e w' ⟨rfl, rfl⟩
    go_wp2_with fail
    go_ret
    exact ⟨rfl, (ext_alloc _ _)⟩
  have d1 : (sm x != sm y) = false := by simp [hs]
  rw [if_pos hs]
  clear hs
  have C5 := C5
  generalize sm x = s1 at *
  generalize sm y = s2 at *
  cases hg : grB x y t
  all_goals
    rw [hg] at C5
    have C5 := Lib.hid C5
    clear hg
    go_enter Try.func91, Try.ntmps91
    go_wp2_with fail
    refine (C1.out _ (Below.refl _ _)).mono ?_
    rintro e w' ⟨rfl, rfl⟩
    go_wp2_with fail
    refine (C2.out _ (Below.refl _ _)).mono ?_
    rintro e w' ⟨rfl, rfl⟩
    go_wp2_with fail
    refine (f55_r 0 _ _ _ [0, 0] _ (ints_new2 _ _ _ _ _ rfl) rfl (by simp) rfl).mono ?_
    rintro e w' ⟨rfl, rfl⟩
    go_wp2_with fail
    refine (C3.out _ (ext_alloc _ _)).mono ?_
    rintro e w' ⟨rfl, rfl⟩
    go_wp2_with fail
    refine (C4.out _ (ext_alloc _ _)).mono ?_
    rintro e w' ⟨rfl, rfl⟩
    go_wp2_with fail
    refine (C5.out _ (ext_alloc _ _)).mono ?_
    rintro e w5 ⟨rfl, hE5⟩
    go_wp2_with fail
    go_ret
    exact ⟨rfl, Ext.trans' (ext_alloc _ _) hE5⟩

set_option maxHeartbeats 4000000 in
theorem f93_c (ax bx a : Option Addr) (na nb n c ca cb : Nat) (x y : List Int) (t : Tbl) (w : World) (hx : Ints w ax x) (hxn : x.length = na) (hxl : na ≤ 1000000) (hy : Ints w bx y) (hyn : y.length = nb) (hyl : nb ≤ 1000000) (hl : Table w a t) (hn : t.length = n) (hlen : n ≤ 1000000) (hin : ∀ j, (hj : j < t.length) → t[j].length ≤ 1000000) :
    Calls Try.prog 93 #[.slice ax na ca, .slice bx nb cb, .slice a n c] w fun e w' => e = .returned (.int .i64 (grErr x y t)) ∧ Ext w w' := by
  have C1 := fun W (h : Ext w W) => f69_c ax na ca x W (hx.ext h) hxn hxl
  have C2 := fun W (h : Ext w W) => f69_c bx nb cb y W (hy.ext h) hyn hyl
  unfold valM at C1 C2
  cases h1 : massB x
  · rw [show grErr x y t = 1 by unfold grErr; rw [h1]; rfl]
    rw [h1, show errOf false = 1 from rfl] at C1
    have C1 := Lib.hid C1
    clear h1 C2
    go_enter Try.func93, Try.ntmps93
    go_wp2_with fail
    refine (C1.out _ (Below.refl _ _)).mono ?_
    rintro e w' ⟨rfl, rfl⟩
    go_wp2_with fail
    go_ret
    exact ⟨rfl, (Below.refl _ _)⟩
  cases h2 : massB y
  · rw [show grErr x y t = 1 by unfold grErr; rw [h1, h2]; rfl]
    rw [h1, show errOf true = 0 from rfl] at C1
    rw [h2, show errOf false = 1 from rfl] at C2
    have C1 := Lib.hid C1
    have C2 := Lib.hid C2
    clear h1 h2
    go_enter Try.func93, Try.ntmps93
    go_wp2_with fail
    refine (C1.out _ (Below.refl _ _)).mono ?_
    rintro e w' ⟨rfl, rfl⟩
    go_wp2_with fail
    refine (C2.out _ (Below.refl _ _)).mono ?_
    rintro e w' ⟨rfl, rfl⟩
    go_wp2_with fail
    go_ret
    exact ⟨rfl, (Below.refl _ _)⟩
  obtain ⟨hx1, hx5, hxb⟩ := massB_ok h1
  obtain ⟨hy1, hy5, hyb⟩ := massB_ok h2
  have hge : grErr x y t = if sm x = sm y then errOf (grB x y t) else 5 := by unfold grErr; rw [h1, h2]; rfl
  rw [hge]
  rw [h1, show errOf true = 0 from rfl] at C1
  rw [h2, show errOf true = 0 from rfl] at C2
  have C1 := Lib.hid C1
  have C2 := Lib.hid C2
  have C3 := Lib.hid (fun W (h : Ext w W) => f26_c ax na ca x W (hx.ext h) hxn (by omega) (fun j hj => by have := hxb j hj; omega))
  have C4 := Lib.hid (fun W (h : Ext w W) => f26_c bx nb cb y W (hy.ext h) hyn (by omega) (fun j hj => by have := hyb j hj; omega))
  have C5 := fun W (h : Ext w W) => f119_c ax bx a na nb n c ca cb x y t W (hx.ext h) hxn hxl (hy.ext h) hyn hyl (hl.ext h) hn hlen hin
  clear hge h1 h2 hin hxb hyb
  by_cases hs : sm x = sm y
  case neg =>
    have d1 : (sm x != sm y) = true := by simp [hs]
    rw [if_neg hs]
    clear hs C5
    generalize sm x = s1 at *
    generalize sm y = s2 at *
    go_enter Try.func93, Try.ntmps93
    go_wp2_with fail
    refine (C1.out _ (Below.refl _ _)).mono ?_
    rintro e w' ⟨rfl, rfl⟩
    go_wp2_with fail
    refine (C2.out _ (Below.refl _ _)).mono ?_
    rintro e w' ⟨rfl, rfl⟩
    go_wp2_with fail
    refine (C3.out _ (Below.refl _ _)).mono ?_
    rintro e w' ⟨rfl, rfl⟩
    go_wp2_with fail
    refine (C4.out _ (Below.refl _ _)).mono ?_
    rintro e w' ⟨rfl, rfl⟩
    go_wp2_with fail
    go_ret
    exact ⟨rfl, (Below.refl _ _)⟩
  have d1 : (sm x != sm y) = false := by simp [hs]
  rw [if_pos hs]
  clear hs
  have C5 := C5
  generalize sm x = s1 at *
  generalize sm y = s2 at *
  cases hg : grB x y t
  all_goals
    rw [hg] at C5
    have C5 := Lib.hid C5
    clear hg
    go_enter Try.func93, Try.ntmps93
    go_wp2_with fail
    refine (C1.out _ (Below.refl _ _)).mono ?_
    rintro e w' ⟨rfl, rfl⟩
    go_wp2_with fail
    refine (C2.out _ (Below.refl _ _)).mono ?_
    rintro e w' ⟨rfl, rfl⟩
    go_wp2_with fail
    refine (C3.out _ (Below.refl _ _)).mono ?_
    rintro e w' ⟨rfl, rfl⟩
    go_wp2_with fail
    refine (C4.out _ (Below.refl _ _)).mono ?_
    rintro e w' ⟨rfl, rfl⟩
    go_wp2_with fail
    refine (C5.out _ (Below.refl _ _)).mono ?_
    rintro e w5 ⟨rfl, hE5⟩
    go_wp2_with fail
    go_ret
    exact ⟨rfl, Ext.trans' (Below.refl _ _) hE5⟩

/-! ### Missing, IsWhole -/
def missV (x y : List Int) (t : Tbl) : Int := if grErr x y t = 0 then absL (lacksL x y t x.length y.length) else 0
def wholeB (x y : List Int) (t : Tbl) : Bool := decide (grErr x y t = 0) && decide (absL (lacksL x y t x.length y.length) = 0)

set_option maxHeartbeats 4000000 in
theorem f42_c (ax bx a : Option Addr) (na nb n c ca cb : Nat) (x y : List Int) (t : Tbl) (w : World) (hx : Ints w ax x) (hxn : x.length = na) (hxl : na ≤ 1000000) (hy : Ints w bx y) (hyn : y.length = nb) (hyl : nb ≤ 1000000) (hl : Table w a t) (hn : t.length = n) (hlen : n ≤ 1000000) (hin : ∀ j, (hj : j < t.length) → t[j].length ≤ 1000000) :
    Calls Try.prog 42 #[.slice ax na ca, .slice bx nb cb, .slice a n c] w fun e w' => e = .returned (.tuple #[.int .i64 (missV x y t), .int .i64 (grErr x y t)]) ∧ Ext w w' := by
  have C1 := f91_c ax bx a na nb n c ca cb x y t w hx hxn hxl hy hyn hyl hl hn hlen hin
  by_cases h0 : grErr x y t = 0
  case neg =>
    have d1 : (grErr x y t != 0) = true := by simp [h0]
    rw [show missV x y t = 0 by unfold missV; rw [if_neg h0]]
    clear h0
    have C1 := Lib.hid C1
    generalize grErr x y t = E at *
    go_enter Try.func42, Try.ntmps42
    go_wp2_with fail
    refine C1.out.mono ?_
    rintro e w1 ⟨rfl, hE1⟩
    go_wp2_with fail
    go_ret2
    exact ⟨rfl, hE1⟩
  obtain ⟨h1, h2, h3, h4⟩ := grErr_ok h0
  have HT := grB_ok h4
  have hxb := (massB_ok h1).2.2
  have hyb := (massB_ok h2).2.2
  have hn' := HT.len
  have C2 := Lib.hid (fun W (h : Ext w W) => f92_c ax bx a x.length y.length c ca cb x y t W (hx.ext h) rfl hxb (hy.ext h) rfl hyb (hl.ext h) (HT.weak (by omega)))
  rw [show missV x y t = absL (lacksL x y t x.length y.length) by unfold missV; rw [if_pos h0]]
  rw [h0] at C1 ⊢
  have C1 := Lib.hid C1
  subst hn hxn hyn
  rw [hn'] at C1 ⊢
  clear h0 h1 h2 h3 h4 HT hxb hyb hin hn'
  generalize absL (lacksL x y t x.length y.length) = V at *
  go_enter Try.func42, Try.ntmps42
  go_wp2_with fail
  refine C1.out.mono ?_
  rintro e w1 ⟨rfl, hE1⟩
  go_wp2_with fail
  refine (C2.out _ hE1).mono ?_
  rintro e w2 ⟨rfl, hE2⟩
  go_wp2_with fail
  go_ret2
  exact ⟨rfl, hE1.trans' hE2⟩

set_option maxHeartbeats 4000000 in
theorem f43_c (ax bx a : Option Addr) (na nb n c ca cb : Nat) (x y : List Int) (t : Tbl) (w : World) (hx : Ints w ax x) (hxn : x.length = na) (hxl : na ≤ 1000000) (hy : Ints w bx y) (hyn : y.length = nb) (hyl : nb ≤ 1000000) (hl : Table w a t) (hn : t.length = n) (hlen : n ≤ 1000000) (hin : ∀ j, (hj : j < t.length) → t[j].length ≤ 1000000) :
    Calls Try.prog 43 #[.slice ax na ca, .slice bx nb cb, .slice a n c] w fun e w' => e = .returned (.tuple #[.int .i64 (missV x y t), .int .i64 (grErr x y t)]) ∧ Ext w w' := by
  have C1 := f93_c ax bx a na nb n c ca cb x y t w hx hxn hxl hy hyn hyl hl hn hlen hin
  by_cases h0 : grErr x y t = 0
  case neg =>
    have d1 : (grErr x y t != 0) = true := by simp [h0]
    rw [show missV x y t = 0 by unfold missV; rw [if_neg h0]]
    clear h0
    have C1 := Lib.hid C1
    generalize grErr x y t = E at *
    go_enter Try.func43, Try.ntmps43
    go_wp2_with fail
    refine C1.out.mono ?_
    rintro e w1 ⟨rfl, hE1⟩
    go_wp2_with fail
    go_ret2
    exact ⟨rfl, hE1⟩
  obtain ⟨h1, h2, h3, h4⟩ := grErr_ok h0
  have HT := grB_ok h4
  have hxb := (massB_ok h1).2.2
  have hyb := (massB_ok h2).2.2
  have hn' := HT.len
  have C2 := Lib.hid (fun W (h : Ext w W) => f94_c ax bx a x.length y.length c ca cb x y t W (hx.ext h) rfl hxb (hy.ext h) rfl hyb (hl.ext h) (HT.weak (by omega)))
  rw [show missV x y t = absL (lacksL x y t x.length y.length) by unfold missV; rw [if_pos h0]]
  rw [h0] at C1 ⊢
  have C1 := Lib.hid C1
  subst hn hxn hyn
  rw [hn'] at C1 ⊢
  clear h0 h1 h2 h3 h4 HT hxb hyb hin hn'
  generalize absL (lacksL x y t x.length y.length) = V at *
  go_enter Try.func43, Try.ntmps43
  go_wp2_with fail
  refine C1.out.mono ?_
  rintro e w1 ⟨rfl, hE1⟩
  go_wp2_with fail
  refine (C2.out _ hE1).mono ?_
  rintro e w2 ⟨rfl, hE2⟩
  go_wp2_with fail
  go_ret2
  exact ⟨rfl, hE1.trans' hE2⟩

set_option maxHeartbeats 4000000 in
theorem f44_c (ax bx a : Option Addr) (na nb n c ca cb : Nat) (x y : List Int) (t : Tbl) (w : World) (hx : Ints w ax x) (hxn : x.length = na) (hxl : na ≤ 1000000) (hy : Ints w bx y) (hyn : y.length = nb) (hyl : nb ≤ 1000000) (hl : Table w a t) (hn : t.length = n) (hlen : n ≤ 1000000) (hin : ∀ j, (hj : j < t.length) → t[j].length ≤ 1000000) :
    Calls Try.prog 44 #[.slice ax na ca, .slice bx nb cb, .slice a n c] w fun e w' => e = .returned (.tuple #[.bool (wholeB x y t), .int .i64 (grErr x y t)]) ∧ Ext w w' := by
  have C1 := f91_c ax bx a na nb n c ca cb x y t w hx hxn hxl hy hyn hyl hl hn hlen hin
  by_cases h0 : grErr x y t = 0
  case neg =>
    have d1 : (grErr x y t != 0) = true := by simp [h0]
    rw [show wholeB x y t = false by unfold wholeB; simp [h0]]
    clear h0
    have C1 := Lib.hid C1
    generalize grErr x y t = E at *
    go_enter Try.func44, Try.ntmps44
    go_wp2_with fail
    refine C1.out.mono ?_
    rintro e w1 ⟨rfl, hE1⟩
    go_wp2_with fail
    go_ret2
    exact ⟨rfl, hE1⟩
  obtain ⟨h1, h2, h3, h4⟩ := grErr_ok h0
  have HT := grB_ok h4
  have hxb := (massB_ok h1).2.2
  have hyb := (massB_ok h2).2.2
  have hn' := HT.len
  have C2 := Lib.hid (fun W (h : Ext w W) => f92_c ax bx a x.length y.length c ca cb x y t W (hx.ext h) rfl hxb (hy.ext h) rfl hyb (hl.ext h) (HT.weak (by omega)))
  rw [show wholeB x y t = decide (absL (lacksL x y t x.length y.length) = 0) by unfold wholeB; simp [h0]]
  rw [h0] at C1 ⊢
  have C1 := Lib.hid C1
  subst hn hxn hyn
  rw [hn'] at C1 ⊢
  clear h0 h1 h2 h3 h4 HT hxb hyb hin hn'
  generalize absL (lacksL x y t x.length y.length) = V at *
  by_cases hV : V = 0
  · have d : (V == 0) = true := by simp [hV]
    rw [show decide (V = 0) = true by simp [hV]]
    clear hV
    go_enter Try.func44, Try.ntmps44
    go_wp2_with fail
    refine C1.out.mono ?_
    rintro e w1 ⟨rfl, hE1⟩
    go_wp2_with fail
    refine (C2.out _ hE1).mono ?_
    rintro e w2 ⟨rfl, hE2⟩
    go_wp2_with fail
    go_ret2
    exact ⟨rfl, hE1.trans' hE2⟩
  · have d : (V == 0) = false := by simp [hV]
    rw [show decide (V = 0) = false by simp [hV]]
    clear hV
    go_enter Try.func44, Try.ntmps44
    go_wp2_with fail
    refine C1.out.mono ?_
    rintro e w1 ⟨rfl, hE1⟩
    go_wp2_with fail
    refine (C2.out _ hE1).mono ?_
    rintro e w2 ⟨rfl, hE2⟩
    go_wp2_with fail
    go_ret2
    exact ⟨rfl, hE1.trans' hE2⟩

set_option maxHeartbeats 4000000 in
theorem f45_c (ax bx a : Option Addr) (na nb n c ca cb : Nat) (x y : List Int) (t : Tbl) (w : World) (hx : Ints w ax x) (hxn : x.length = na) (hxl : na ≤ 1000000) (hy : Ints w bx y) (hyn : y.length = nb) (hyl : nb ≤ 1000000) (hl : Table w a t) (hn : t.length = n) (hlen : n ≤ 1000000) (hin : ∀ j, (hj : j < t.length) → t[j].length ≤ 1000000) :
    Calls Try.prog 45 #[.slice ax na ca, .slice bx nb cb, .slice a n c] w fun e w' => e = .returned (.tuple #[.bool (wholeB x y t), .int .i64 (grErr x y t)]) ∧ Ext w w' := by
  have C1 := f93_c ax bx a na nb n c ca cb x y t w hx hxn hxl hy hyn hyl hl hn hlen hin
  by_cases h0 : grErr x y t = 0
  case neg =>
    have d1 : (grErr x y t != 0) = true := by simp [h0]
    rw [show wholeB x y t = false by unfold wholeB; simp [h0]]
    clear h0
    have C1 := Lib.hid C1
    generalize grErr x y t = E at *
    go_enter Try.func45, Try.ntmps45
    go_wp2_with fail
    refine C1.out.mono ?_
    rintro e w1 ⟨rfl, hE1⟩
    go_wp2_with fail
    go_ret2
    exact ⟨rfl, hE1⟩
  obtain ⟨h1, h2, h3, h4⟩ := grErr_ok h0
  have HT := grB_ok h4
  have hxb := (massB_ok h1).2.2
  have hyb := (massB_ok h2).2.2
  have hn' := HT.len
  have C2 := Lib.hid (fun W (h : Ext w W) => f94_c ax bx a x.length y.length c ca cb x y t W (hx.ext h) rfl hxb (hy.ext h) rfl hyb (hl.ext h) (HT.weak (by omega)))
  rw [show wholeB x y t = decide (absL (lacksL x y t x.length y.length) = 0) by unfold wholeB; simp [h0]]
  rw [h0] at C1 ⊢
  have C1 := Lib.hid C1
  subst hn hxn hyn
  rw [hn'] at C1 ⊢
  clear h0 h1 h2 h3 h4 HT hxb hyb hin hn'
  generalize absL (lacksL x y t x.length y.length) = V at *
  by_cases hV : V = 0
  · have d : (V == 0) = true := by simp [hV]
    rw [show decide (V = 0) = true by simp [hV]]
    clear hV
    go_enter Try.func45, Try.ntmps45
    go_wp2_with fail
    refine C1.out.mono ?_
    rintro e w1 ⟨rfl, hE1⟩
    go_wp2_with fail
    refine (C2.out _ hE1).mono ?_
    rintro e w2 ⟨rfl, hE2⟩
    go_wp2_with fail
    go_ret2
    exact ⟨rfl, hE1.trans' hE2⟩
  · have d : (V == 0) = false := by simp [hV]
    rw [show decide (V = 0) = false by simp [hV]]
    clear hV
    go_enter Try.func45, Try.ntmps45
    go_wp2_with fail
    refine C1.out.mono ?_
    rintro e w1 ⟨rfl, hE1⟩
    go_wp2_with fail
    refine (C2.out _ hE1).mono ?_
    rintro e w2 ⟨rfl, hE2⟩
    go_wp2_with fail
    go_ret2
    exact ⟨rfl, hE1.trans' hE2⟩

end Go.Proofs.Ytaidoaggmllcfaa
