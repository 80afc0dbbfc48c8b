/- Contracts of layer 6: Fits of the reference; the soft plan of the reference. -/
import Derived.Test.YtaidoaggmllcfaaT24
namespace Go.Proofs.Ytaidoaggmllcfaa
open Go.RowKit
attribute [local go_sem] GW.cell

def forErr (x y : List Int) (t : Tbl) : Int := if fitsB x y t then 0 else 1
set_option maxHeartbeats 8000000 in
theorem f122_c (ax bx a : Option Addr) (na nb n c ca cb : Nat) (x y : List Int) (t : Tbl) (w : World) (hx : Ints w ax x) (hxn : x.length = na) (hxl : na ≤ 1000000) (hy : Ints w bx y) (hyn : y.length = nb) (hyl : nb ≤ 1000000) (hl : Table w a t) (hn : t.length = n) (hlen : n ≤ 1000000) (hin : ∀ j, (hj : j < t.length) → t[j].length ≤ 1000000) :
    Calls Try.prog 122 #[.slice ax na ca, .slice bx nb cb, .slice a n c] w fun e w' => e = .returned (.int .i64 (forErr x y t)) ∧ Ext w w' := by
  have C1 := f69_c ax na ca x w hx hxn hxl
  have C2 := f69_c bx nb cb y w hy hyn hyl
  have C3 := f59_c a n c t w hl hn hlen hin
  unfold valM at C1 C2
  unfold valT at C3
  cases h1 : massB x with
  | false =>
    have he : forErr x y t = 1 := by unfold forErr fitsB; rw [h1]; rfl
    rw [h1] at C1
    have C1 := Lib.hid C1
    rw [he]
    clear h1 he C2 C3
    go_enter Try.func122, Try.ntmps122
    go_wp2_with fail
    refine C1.out.mono ?_
    rintro e w' ⟨rfl, rfl⟩
    go_wp2_with fail
    go_ret
    exact ⟨rfl, Below.refl _ _⟩
  | true =>
    rw [h1] at C1
    have C1 := Lib.hid C1
    cases h2 : massB y with
    | false =>
      have he : forErr x y t = 1 := by unfold forErr fitsB; rw [h1, h2]; rfl
      rw [h2] at C2
      have C2 := Lib.hid C2
      rw [he]
      clear h1 h2 he C3
      go_enter Try.func122, Try.ntmps122
      go_wp2_with fail
      refine C1.out.mono ?_
      rintro e w' ⟨rfl, rfl⟩
      go_wp2_with fail
      refine C2.out.mono ?_
      rintro e w' ⟨rfl, rfl⟩
      go_wp2_with fail
      go_ret
      exact ⟨rfl, Below.refl _ _⟩
    | true =>
      rw [h2] at C2
      have C2 := Lib.hid C2
      cases h3 : tabB 0 99 t with
      | false =>
        have he : forErr x y t = 1 := by unfold forErr fitsB; rw [h1, h2, h3]; rfl
        rw [h3] at C3
        have C3 := Lib.hid C3
        rw [he]
        clear h1 h2 h3 he
        go_enter Try.func122, Try.ntmps122
        go_wp2_with fail
        refine C1.out.mono ?_
        rintro e w' ⟨rfl, rfl⟩
        go_wp2_with fail
        refine C2.out.mono ?_
        rintro e w' ⟨rfl, rfl⟩
        go_wp2_with fail
        refine C3.out.mono ?_
        rintro e w1 ⟨rfl, hE1⟩
        go_wp2_with fail
        go_ret
        exact ⟨rfl, hE1⟩
      | true =>
        rw [h3] at C3
        have C3 := Lib.hid C3
        have H0 := tabB_ok h3
        have hn1 := H0.n1
        have hm5 := H0.m5
        obtain ⟨b0, o0, a0, c0, e0, hb0, hc0, hI0⟩ := hl 0 (by omega)
        subst e0
        rw [← row_at (by omega)] at hc0
        simp only [Nat.add_zero] at hc0
        have hfe : fitsB x y t = (decide (t.length = x.length) && decide ((row t 0).length = y.length)) := by unfold fitsB; rw [h1, h2, h3]; rfl
        unfold forErr
        rw [hfe]
        subst hn hxn hyn
        clear h1 h2 h3 hI0 H0 hfe hin
        generalize (row t 0).length = M at *
        by_cases g1 : t.length = x.length
        case neg =>
          have d1 : ((t.length : Int) != (x.length : Int)) = true := by simp; omega
          rw [if_neg (by simp [g1])]
          clear g1
          go_enter Try.func122, Try.ntmps122
          go_wp2_with fail
          refine C1.out.mono ?_
          rintro e w' ⟨rfl, rfl⟩
          go_wp2_with fail
          refine C2.out.mono ?_
          rintro e w' ⟨rfl, rfl⟩
          go_wp2_with fail
          refine C3.out.mono ?_
          rintro e w1 ⟨rfl, hE1⟩
          go_wp2_with fail
          go_ret
          exact ⟨rfl, hE1⟩
        have d1 : ((t.length : Int) != (x.length : Int)) = false := by simp; omega
        by_cases g2 : M = y.length
        all_goals
          first
            | (have d2 : ((M : Int) != (y.length : Int)) = false := by simp; omega
               rw [if_pos (by simp [g1, g2])])
            | (have d2 : ((M : Int) != (y.length : Int)) = true := by simp; omega
               rw [if_neg (by simp [g2])])
          clear g1 g2
          go_enter Try.func122, Try.ntmps122
          go_wp2_with fail
          refine C1.out.mono ?_
          rintro e w' ⟨rfl, rfl⟩
          go_wp2_with fail
          refine C2.out.mono ?_
          rintro e w' ⟨rfl, rfl⟩
          go_wp2_with fail
          refine C3.out.mono ?_
          rintro e w1 ⟨rfl, hE1⟩
          have hc0 := (hE1.cell' hb0).trans hc0
          go_wp2_with fail
          go_ret
          exact ⟨rfl, hE1⟩

set_option maxHeartbeats 4000000 in
theorem f99_c (ax bx a : Option Addr) (na nb n c ca cb : Nat) (x y : List Int) (t : Tbl) (w : World) (hx : Ints w ax x) (hxn : x.length = na) (hxl : na ≤ 1000000) (hy : Ints w bx y) (hyn : y.length = nb) (hyl : nb ≤ 1000000) (hl : Table w a t) (hn : t.length = n) (hlen : n ≤ 1000000) (hin : ∀ j, (hj : j < t.length) → t[j].length ≤ 1000000) :
    Calls Try.prog 99 #[.slice ax na ca, .slice bx nb cb, .slice a n c] w fun e w' => e = .returned (.int .i64 (fitsErr x y t)) ∧ Ext w w' := by
  have C1 := f122_c ax bx a na nb n c ca cb x y t w hx hxn hxl hy hyn hyl hl hn hlen hin
  unfold forErr at C1
  cases h : fitsB x y t with
  | false =>
    rw [h] at C1
    have C1 := Lib.hid C1
    rw [show fitsErr x y t = 1 by unfold fitsErr; rw [h]; rfl]
    clear h
    go_enter Try.func99, Try.ntmps99
    go_wp2_with fail
    refine C1.out.mono ?_
    rintro e w1 ⟨rfl, hE1⟩
    go_wp2_with fail
    go_ret
    exact ⟨rfl, hE1⟩
  | true =>
    rw [h, if_pos rfl] at C1
    have C1 := Lib.hid C1
    have hf : fitsErr x y t = if sm x = sm y then 0 else 5 := by unfold fitsErr; rw [if_pos h]
    rw [hf]
    simp only [fitsB, Bool.and_eq_true, decide_eq_true_eq] at h
    have hxb := (massB_ok h.1).2
    have hyb := (massB_ok h.2.1).2
    have C4 := Lib.hid (fun W (h : Ext w W) => f26_c ax na ca x W (hx.ext h) hxn (by omega) (fun j hj => by have := hxb.2 j hj; omega))
    have C5 := Lib.hid (fun W (h : Ext w W) => f26_c bx nb cb y W (hy.ext h) hyn (by omega) (fun j hj => by have := hyb.2 j hj; omega))
    clear h hf hxb hyb
    by_cases hs : sm x = sm y
    all_goals
      first
        | (have d3 : (sm x != sm y) = false := by simp [hs]
           rw [if_pos hs])
        | (have d3 : (sm x != sm y) = true := by simp [hs]
           rw [if_neg hs])
      clear hs
      generalize sm x = s1 at *
      generalize sm y = s2 at *
      go_enter Try.func99, Try.ntmps99
      go_wp2_with fail
      refine C1.out.mono ?_
      rintro e w1 ⟨rfl, hE1⟩
      go_wp2_with fail
      refine (C4.out _ hE1).mono ?_
      rintro e w' ⟨rfl, rfl⟩
      go_wp2_with fail
      refine (C5.out _ hE1).mono ?_
      rintro e w' ⟨rfl, rfl⟩
      go_wp2_with fail
      go_ret
      exact ⟨rfl, hE1⟩

set_option maxRecDepth 20000 in
set_option maxHeartbeats 8000000 in
theorem f54_c (ax bx a : Option Addr) (na nb n c ca cb : Nat) (x y : List Int) (t : Tbl) (s r : Int) (w : World) (hx : Ints w ax x) (hxn : x.length = na) (hxl : na ≤ 1000000) (hy : Ints w bx y) (hyn : y.length = nb) (hyl : nb ≤ 1000000) (hl : Table w a t) (hn : t.length = n) (hlen : n ≤ 1000000) (hin : ∀ j, (hj : j < t.length) → t[j].length ≤ 1000000) :
    Calls Try.prog 54 #[.slice ax na ca, .slice bx nb cb, .slice a n c, .int .i64 s, .int .i64 r] w (RetTE 31 (softV x y t s r) (softErr x y t s r) w) := by
  have C1 := f99_c ax bx a na nb n c ca cb x y t w hx hxn hxl hy hyn hyl hl hn hlen hin
  have C2 := fun W => f60_c s 1 99 W
  have C3 := fun W => f60_c r 1 10 W
  by_cases h0 : fitsErr x y t = 0
  case neg =>
    have d1 : (fitsErr x y t != 0) = true := by simp [h0]
    have e : softErr x y t s r = fitsErr x y t := by unfold softErr; rw [if_neg h0]
    rw [show softV x y t s r = [] by unfold softV; rw [e, if_neg h0], e]
    clear h0 e C2 C3
    have C1 := Lib.hid C1
    generalize fitsErr x y t = E at *
    go_enter Try.func54, Try.ntmps54
    go_wp2_with fail
    refine C1.out.mono ?_
    rintro e w1 ⟨rfl, hE1⟩
    go_wp2_with fail
    go_ret2
    exact retTE_nil hE1
  have he : softErr x y t s r = errOf (withinB s 1 99 && withinB r 1 10) := by unfold softErr; rw [if_pos h0]
  obtain ⟨g1, g2, g3, g4, g5, g6⟩ := fitsErr_ok h0
  rw [h0] at C1
  have C1 := Lib.hid C1
  cases b1 : withinB s 1 99
  · rw [b1] at C2
    have C2 := Lib.hid C2
    rw [show softV x y t s r = [] by unfold softV; rw [he, b1]; rfl, he, b1, show errOf (false && withinB r 1 10) = 1 from rfl]
    clear he b1 h0 g1 g2 g3 g4 g5 g6 C3
    go_enter Try.func54, Try.ntmps54
    go_wp2_with fail
    refine C1.out.mono ?_
    rintro e w1 ⟨rfl, hE1⟩
    go_wp2_with fail
    refine (C2.out _).mono ?_
    rintro e w' ⟨rfl, rfl⟩
    go_wp2_with fail
    go_ret2
    exact retTE_nil hE1
  rw [b1] at C2
  have C2 := Lib.hid C2
  cases b2 : withinB r 1 10
  · rw [b2] at C3
    have C3 := Lib.hid C3
    rw [show softV x y t s r = [] by unfold softV; rw [he, b1, b2]; rfl, he, b1, b2, show errOf (true && false) = 1 from rfl]
    clear he b1 b2 h0 g1 g2 g3 g4 g5 g6
    go_enter Try.func54, Try.ntmps54
    go_wp2_with fail
    refine C1.out.mono ?_
    rintro e w1 ⟨rfl, hE1⟩
    go_wp2_with fail
    refine (C2.out _).mono ?_
    rintro e w' ⟨rfl, rfl⟩
    go_wp2_with fail
    refine (C3.out _).mono ?_
    rintro e w' ⟨rfl, rfl⟩
    go_wp2_with fail
    go_ret2
    exact retTE_nil hE1
  rw [b2] at C3
  have C3 := Lib.hid C3
  have hs := withinB_iff.1 b1
  have hr := withinB_iff.1 b2
  obtain ⟨R, rfl⟩ := Int.eq_ofNat_of_zero_le (a := r) (by omega)
  rw [show softV x y t s (R : Int) = repV x.length y.length x y (fitN x.length y.length x y (kernelT t s) R) by unfold softV; rw [he, b1, b2]; simp [errOf], he, b1, b2, show errOf (true && true) = 0 from rfl]
  have hxb := (massB_ok g1).2.2
  have hyb := (massB_ok g2).2.2
  have hk := kernelT_ok g3 hs
  rw [g4, g5] at hk
  have hf := fitN_ok2 hk hxb hyb (k := R) (by omega)
  have C4 := Lib.hid (fun W (h : Ext w W) => f61_c a n c t s W (hl.ext h) hn g3 hs)
  have C5 := Lib.hid (fun a1 c1 W (h1 : Table W a1 (kernelT t s)) (h : Ext w W) => f73_c a1 ax bx x.length c1 y.length ca cb R (kernelT t s) x y W h1 hk (hx.ext h) rfl hxb (hy.ext h) rfl hyb (by omega))
  have C6 := Lib.hid (fun a1 c1 W (h1 : Table W a1 (fitN x.length y.length x y (kernelT t s) R)) (h : Ext w W) => f97_c ax bx a1 x.length y.length c1 ca cb x y _ W (hx.ext h) rfl hxb (hy.ext h) rfl hyb h1 (hf.weak (by omega)))
  have L1 := Lib.hid hk.len
  have L2 := Lib.hid hf.len
  subst hxn hyn
  clear he b1 b2 h0 g1 g2 g3 g4 g5 g6 hk hf hxb hyb hin hs hr hx hy hl
  generalize repV x.length y.length x y (fitN x.length y.length x y (kernelT t s) R) = V at *
  generalize fitN x.length y.length x y (kernelT t s) R = FF at *
  generalize kernelT t s = K at *
  go_enter Try.func54, Try.ntmps54
  go_wp2_with fail
  refine C1.out.mono ?_
  rintro e w1 ⟨rfl, hE1⟩
  go_wp2_with fail
  refine (C2.out _).mono ?_
  rintro e w' ⟨rfl, rfl⟩
  go_wp2_with fail
  refine (C3.out _).mono ?_
  rintro e w' ⟨rfl, rfl⟩
  go_wp2_with fail
  refine (C4.out _ hE1).mono ?_
  rintro e w2 ⟨v, rfl, hT, hE2⟩
  obtain ⟨a2, c2, rfl, hT2⟩ := hT.table
  rw [L1.out]
  have HT2 := Lib.hid hT2
  have hE2 := hE1.trans' hE2
  clear hT hT2
  go_wp2_with fail
  refine (C5.out _ _ _ HT2.out hE2).mono ?_
  rintro e w3 ⟨a3, c3, rfl, hT3, hE3⟩
  rw [L2.out]
  have HT3 := Lib.hid hT3
  have hE3 := hE2.trans' hE3
  clear hT3
  go_wp2_with fail
  refine (C6.out _ _ _ HT3.out hE3).mono ?_
  rintro e w4 ⟨v, rfl, hT, hE4⟩
  obtain ⟨a8, c8, e8, _⟩ := hT.table
  subst e8
  have hR := Lib.hid (retTE_mk (e := 0) hE3 hT hE4)
  clear hT
  go_wp2_with fail
  go_ret2
  exact hR.out
end Go.Proofs.Ytaidoaggmllcfaa
