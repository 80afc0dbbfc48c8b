/- Contracts of layer 6: long jobs; the soft plan of the program. -/
import Derived.Test.YtaidoaggmllcfaaT21
namespace Go.Proofs.Ytaidoaggmllcfaa
open Go.RowKit
attribute [local go_sem] GW.cell

def longB (na nb : Nat) (t : Tbl) : Bool := decide (50 < na) || (decide (50 < nb) || wideB t)
set_option maxHeartbeats 4000000 in
theorem f32_c (ax bx a : Option Addr) (na ca nb cb n c : Nat) (t : Tbl) (w : World) (hl : Table w a t) (hn : t.length = n) (hlen : n ≤ 9223372036854775807) :
    Calls Try.prog 32 #[.agg #[.slice ax na ca, .slice bx nb cb, .slice a n c]] w fun e w' => e = .returned (.bool (longB na nb t)) ∧ Ext w w' := by
  have hE0 := ext_alloc w (.cells #[.slice ax na ca, .slice bx nb cb, .slice a n c] 51)
  have HB := Lib.hid (BlkC.new w #[.slice ax na ca, .slice bx nb cb, .slice a n c] 51)
  have C := Lib.hid (f13_c a n c t _ (hl.ext hE0) hn hlen)
  have hc0 := HB.out.cellv 0 (v := .slice ax na ca) rfl
  have hc1 := HB.out.cellv 1 (v := .slice bx nb cb) rfl
  have hc2 := HB.out.cellv 2 (v := .slice a n c) rfl
  by_cases h1 : 50 < na
  · have d1 : decide (50 < (na : Int)) = true := by simp; omega
    rw [show longB na nb t = true by simp [longB, h1]]
    clear h1
    go_enter Try.func32, Try.ntmps32
    go_wp2_with fail
    generalize w.alloc (.cells #[.slice ax na ca, .slice bx nb cb, .slice a n c] 51) = w0 at *
    go_wp2_with fail
    go_ret
    exact ⟨rfl, hE0⟩
  have d1 : decide (50 < (na : Int)) = false := by simp; omega
  by_cases h2 : 50 < nb
  · have d2 : decide (50 < (nb : Int)) = true := by simp; omega
    rw [show longB na nb t = true by simp [longB, h2]]
    clear h1 h2
    go_enter Try.func32, Try.ntmps32
    go_wp2_with fail
    generalize w.alloc (.cells #[.slice ax na ca, .slice bx nb cb, .slice a n c] 51) = w0 at *
    go_wp2_with fail
    go_ret
    exact ⟨rfl, hE0⟩
  have d2 : decide (50 < (nb : Int)) = false := by simp; omega
  rw [show longB na nb t = wideB t by simp [longB, h1, h2]]
  clear h1 h2
  go_enter Try.func32, Try.ntmps32
  go_wp2_with fail
  generalize w.alloc (.cells #[.slice ax na ca, .slice bx nb cb, .slice a n c] 51) = w0 at *
  go_wp2_with fail
  refine C.out.mono ?_
  rintro e w' ⟨rfl, rfl⟩
  go_wp2_with fail
  go_ret
  exact ⟨rfl, hE0⟩
theorem kernelT_ok {t : Tbl} {s : Int} (h : tabB 0 99 t = true) (hs : 1 ≤ s ∧ s ≤ 99) : TOk t.length (row t 0).length 0 1000000 (kernelT t s) := by
  have h0 := tabB_ok h
  refine ⟨h0.n1, h0.n5, h0.m1, h0.m5, mk_len _ _ _, fun i hi => mk_cols _ hi, fun i j hi hj => ?_⟩
  unfold kernelT
  rw [tg_mk _ hi hj]
  have := kerV_bd (h0.bd i j hi hj).1 hs.1
  omega
def softErr (x y : List Int) (t : Tbl) (s r : Int) : Int := if fitsErr x y t = 0 then errOf (withinB s 1 99 && withinB r 1 10) else fitsErr x y t
def softV (x y : List Int) (t : Tbl) (s r : Int) : Tbl := if softErr x y t s r = 0 then repV x.length y.length x y (fitN x.length y.length x y (kernelT t s) r.toNat) else []
theorem fitsErr_ok {x y : List Int} {t : Tbl} (h : fitsErr x y t = 0) : massB x = true ∧ massB y = true ∧ tabB 0 99 t = true ∧ t.length = x.length ∧ (row t 0).length = y.length ∧ sm x = sm y := by
  unfold fitsErr at h
  split at h
  · next h1 =>
    simp only [fitsB, Bool.and_eq_true, decide_eq_true_eq] at h1
    split at h
    · next h2 => exact ⟨h1.1, h1.2.1, h1.2.2.1, h1.2.2.2.1, h1.2.2.2.2, h2⟩
    · omega
  · omega
set_option maxRecDepth 20000 in
set_option maxHeartbeats 8000000 in
theorem f33_c (ax bx a : Option Addr) (na nb n c ca cb : Nat) (x y : List Int) (t : Tbl) (s r : Int) (w : World) (hx : Ints w ax x) (hxn : x.length = na) (hxl : na ≤ 1000000) (hy : Ints w bx y) (hyn : y.length = nb) (hyl : nb ≤ 1000000) (hl : Table w a t) (hn : t.length = n) (hlen : n ≤ 1000000) (hin : ∀ j, (hj : j < t.length) → t[j].length ≤ 1000000) :
    Calls Try.prog 33 #[.slice ax na ca, .slice bx nb cb, .slice a n c, .int .i64 s, .int .i64 r] w (RetTE 31 (softV x y t s r) (softErr x y t s r) w) := by
  have C1 := f80_c ax bx a na nb n c ca cb x y t w hx hxn hxl hy hyn hyl hl hn hlen hin
  have C2 := fun W => f57_c s W
  have C3 := fun W => f62_c r 1 10 W
  by_cases h0 : fitsErr x y t = 0
  case neg =>
    have d1 : (fitsErr x y t != 0) = true := by simp [h0]
    have e : softErr x y t s r = fitsErr x y t := by unfold softErr; rw [if_neg h0]
    rw [show softV x y t s r = [] by unfold softV; rw [e, if_neg h0], e]
    clear h0 e C2 C3
    have C1 := Lib.hid C1
    generalize fitsErr x y t = E at *
    go_enter Try.func33, Try.ntmps33
    go_wp2_with fail
    refine C1.out.mono ?_
    rintro e w1 ⟨rfl, hE1⟩
    go_wp2_with fail
    go_ret2
    exact retTE_nil hE1
  have he : softErr x y t s r = errOf (withinB s 1 99 && withinB r 1 10) := by unfold softErr; rw [if_pos h0]
  obtain ⟨g1, g2, g3, g4, g5, g6⟩ := fitsErr_ok h0
  rw [h0] at C1
  have C1 := Lib.hid C1
  cases b1 : withinB s 1 99
  · rw [b1, show errOf false = 1 from rfl] at C2
    have C2 := Lib.hid C2
    rw [show softV x y t s r = [] by unfold softV; rw [he, b1]; rfl, he, b1, show errOf (false && withinB r 1 10) = 1 from rfl]
    clear he b1 h0 g1 g2 g3 g4 g5 g6 C3
    go_enter Try.func33, Try.ntmps33
    go_wp2_with fail
    refine C1.out.mono ?_
    rintro e w1 ⟨rfl, hE1⟩
    go_wp2_with fail
    refine (C2.out _).mono ?_
    rintro e w' ⟨rfl, rfl⟩
    go_wp2_with fail
    go_ret2
    exact retTE_nil hE1
  rw [b1, show errOf true = 0 from rfl] at C2
  have C2 := Lib.hid C2
  cases b2 : withinB r 1 10
  · rw [b2] at C3
    have C3 := Lib.hid C3
    rw [show softV x y t s r = [] by unfold softV; rw [he, b1, b2]; rfl, he, b1, b2, show errOf (true && false) = 1 from rfl]
    clear he b1 b2 h0 g1 g2 g3 g4 g5 g6
    go_enter Try.func33, Try.ntmps33
    go_wp2_with fail
    refine C1.out.mono ?_
    rintro e w1 ⟨rfl, hE1⟩
    go_wp2_with fail
    refine (C2.out _).mono ?_
    rintro e w' ⟨rfl, rfl⟩
    go_wp2_with fail
    refine (C3.out _).mono ?_
    rintro e w' ⟨rfl, rfl⟩
    go_wp2_with fail
    go_ret2
    exact retTE_nil hE1
  rw [b2] at C3
  have C3 := Lib.hid C3
  have hs := withinB_iff.1 b1
  have hr := withinB_iff.1 b2
  obtain ⟨R, rfl⟩ := Int.eq_ofNat_of_zero_le (a := r) (by omega)
  rw [show softV x y t s (R : Int) = repV x.length y.length x y (fitN x.length y.length x y (kernelT t s) R) by unfold softV; rw [he, b1, b2]; simp [errOf], he, b1, b2, show errOf (true && true) = 0 from rfl]
  have hxb := (massB_ok g1).2.2
  have hyb := (massB_ok g2).2.2
  have hk := kernelT_ok g3 hs
  rw [g4, g5] at hk
  have hf := fitN_ok2 hk hxb hyb (k := R) (by omega)
  have C4 := Lib.hid (fun W (h : Ext w W) => f58_c a n c t s W (hl.ext h) hn g3 hs)
  have C5 := Lib.hid (fun a1 c1 W (h1 : Table W a1 (kernelT t s)) (h : Ext w W) => f72_c a1 ax bx x.length c1 y.length ca cb R (kernelT t s) x y W h1 hk (hx.ext h) rfl hxb (hy.ext h) rfl hyb (by omega))
  have C6 := Lib.hid (fun a1 c1 W (h1 : Table W a1 (fitN x.length y.length x y (kernelT t s) R)) (h : Ext w W) => f81_c ax bx a1 x.length y.length c1 ca cb x y _ W (hx.ext h) rfl hxb (hy.ext h) rfl hyb h1 (hf.weak (by omega)))
  have L1 := Lib.hid hk.len
  have L2 := Lib.hid hf.len
  subst hxn hyn
  clear he b1 b2 h0 g1 g2 g3 g4 g5 g6 hk hf hxb hyb hin hs hr hx hy hl
  generalize repV x.length y.length x y (fitN x.length y.length x y (kernelT t s) R) = V at *
  generalize fitN x.length y.length x y (kernelT t s) R = FF at *
  generalize kernelT t s = K at *
  go_enter Try.func33, Try.ntmps33
  go_wp2_with fail
  refine C1.out.mono ?_
  rintro e w1 ⟨rfl, hE1⟩
  go_wp2_with fail
  refine (C2.out _).mono ?_
  rintro e w' ⟨rfl, rfl⟩
  go_wp2_with fail
  refine (C3.out _).mono ?_
  rintro e w' ⟨rfl, rfl⟩
  go_wp2_with fail
  refine (C4.out _ hE1).mono ?_
  rintro e w2 ⟨v, rfl, hT, hE2⟩
  obtain ⟨a2, c2, rfl, hT2⟩ := hT.table
  rw [L1.out]
  have HT2 := Lib.hid hT2
  have hE2 := hE1.trans' hE2
  clear hT hT2
  go_wp2_with fail
  refine (C5.out _ _ _ HT2.out hE2).mono ?_
  rintro e w3 ⟨a3, c3, rfl, hT3, hE3⟩
  rw [L2.out]
  have HT3 := Lib.hid hT3
  have hE3 := hE2.trans' hE3
  clear hT3
  go_wp2_with fail
  refine (C6.out _ _ _ HT3.out hE3).mono ?_
  rintro e w4 ⟨v, rfl, hT, hE4⟩
  obtain ⟨a8, c8, e8, _⟩ := hT.table
  subst e8
  have hR := Lib.hid (retTE_mk (e := 0) hE3 hT hE4)
  clear hT
  go_wp2_with fail
  go_ret2
  exact hR.out

end Go.Proofs.Ytaidoaggmllcfaa
