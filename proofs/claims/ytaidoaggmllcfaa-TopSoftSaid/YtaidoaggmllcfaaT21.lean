/- Contracts of layer 6: Fits; the soft plan of the program. -/
import Derived.Test.YtaidoaggmllcfaaT20
namespace Go.Proofs.Ytaidoaggmllcfaa
open Go.RowKit
attribute [local go_sem] GW.cell

set_option maxHeartbeats 1000000 in
theorem f110_c (a : Option Addr) (n c : Nat) (l : List Int) (w : World) (hl : Ints w a l) (hn : l.length = n) (hlen : n ≤ 1000) (hbd : ∀ j, j < l.length → -1000000000000 ≤ gi l j ∧ gi l j ≤ 1000000000000) :
    Calls Try.prog 110 #[.slice a n c] w fun e w' => e = .returned (.int .i64 (sm l)) ∧ w = w' := by
  subst hn
  have Hbd := Lib.hid (smTo_bd2 (M := 1000000000000) hbd)
  have Hb := Lib.hid hbd
  clear hbd
  go_enter Try.func110, Try.ntmps110
  go_wp2_with fail
  go_loop [3, 5, 8] (fun s _ i => ∃ k : Nat, k ≤ l.length ∧ i = .int .i64 k ∧ s = .int .i64 (smTo l k)) (fun _ _ i => l.length - (intOf i).toNat)
  case atStart => exact ⟨0, Nat.zero_le _, rfl, rfl⟩
  case round =>
    obtain ⟨k, hk, rfl, rfl⟩ := hrel
    by_cases hlt : k < l.length
    · obtain ⟨b, off, rfl, hb, hcc⟩ := hl k hlt
      rw [← gi_at] at hcc
      have h1 := Hbd.out k (by omega)
      have h2 := Hb.out k hlt
      have Hs := Lib.hid (smTo_succ l k)
      generalize gi l k = x at *
      generalize smTo l k = y at *
      go_wp2_with fail
      go_round
      case rel => exact ⟨k + 1, by omega, by go_num, by rw [Hs.out]⟩
      case measure => simp [intOf]; omega
    · obtain rfl : k = l.length := by omega
      go_wp2_with fail
      go_ret
      exact ⟨rfl, rfl⟩
/-- the first error of masses and a cost table -/
def fitsB (x y : List Int) (t : Tbl) : Bool := massB x && (massB y && (tabB 0 99 t && (decide (t.length = x.length) && decide ((row t 0).length = y.length))))
def fitsErr (x y : List Int) (t : Tbl) : Int := if fitsB x y t then (if sm x = sm y then 0 else 5) else 1
set_option maxHeartbeats 8000000 in
theorem f80_c (ax bx a : Option Addr) (na nb n c ca cb : Nat) (x y : List Int) (t : Tbl) (w : World) (hx : Ints w ax x) (hxn : x.length = na) (hxl : na ≤ 1000000) (hy : Ints w bx y) (hyn : y.length = nb) (hyl : nb ≤ 1000000) (hl : Table w a t) (hn : t.length = n) (hlen : n ≤ 1000000) (hin : ∀ j, (hj : j < t.length) → t[j].length ≤ 1000000) :
    Calls Try.prog 80 #[.slice ax na ca, .slice bx nb cb, .slice a n c] w fun e w' => e = .returned (.int .i64 (fitsErr x y t)) ∧ Ext w w' := by
  have C1 := f66_c ax na ca x w hx hxn hxl
  have C2 := f66_c bx nb cb y w hy hyn hyl
  have C3 := f56_c a n c t w hl hn hlen hin
  unfold valM at C1 C2
  unfold valT at C3
  cases hv : (massB x && (massB y && tabB 0 99 t))
  · have hr : orL [errOf (massB x), errOf (massB y), errOf (tabB 0 99 t)] = 1 := by
      revert hv
      cases massB x <;> cases massB y <;> cases tabB 0 99 t <;> simp [orL, errOf]
    have hk : fitsErr x y t = 1 := by
      have : fitsB x y t = false := by
        unfold fitsB; revert hv
        cases massB x <;> cases massB y <;> cases tabB 0 99 t <;> simp
      unfold fitsErr; rw [this]; rfl
    rw [hk]
    have C1 := Lib.hid C1
    have C2 := Lib.hid C2
    have C3 := Lib.hid C3
    have Hr := Lib.hid hr
    clear hv hk hr
    generalize errOf (massB x) = e1 at *
    generalize errOf (massB y) = e2 at *
    generalize errOf (tabB 0 99 t) = e3 at *
    go_enter Try.func80, Try.ntmps80
    go_wp2_with fail
    refine C1.out.mono ?_
    rintro e w' ⟨rfl, rfl⟩
    go_wp2_with fail
    refine C2.out.mono ?_
    rintro e w' ⟨rfl, rfl⟩
    go_wp2_with fail
    refine C3.out.mono ?_
    rintro e w1 ⟨rfl, hE1⟩
    go_wp2_with fail
    refine (f55_r 1 _ _ _ [e1, e2, e3] _ (ints_new3 _ _ _ _ _ _ rfl) rfl (by simp) Hr.out).mono ?_
    rintro e w' ⟨rfl, rfl⟩
    go_wp2_with fail
    go_ret
    exact ⟨rfl, hE1.trans' (ext_alloc _ _)⟩
  have h1 : massB x = true := by revert hv; cases massB x <;> simp
  have h2 : massB y = true := by revert hv; cases massB y <;> simp
  have h3 : tabB 0 99 t = true := by revert hv; cases tabB 0 99 t <;> simp
  clear hv
  rw [h1, show errOf true = 0 from rfl] at C1
  rw [h2, show errOf true = 0 from rfl] at C2
  rw [h3, show errOf true = 0 from rfl] at C3
  have C1 := Lib.hid C1
  have C2 := Lib.hid C2
  have C3 := Lib.hid C3
  have hxb := (massB_ok h1).2
  have hyb := (massB_ok h2).2
  have H0 := tabB_ok h3
  have hn1 := H0.n1
  have hm5 := H0.m5
  obtain ⟨b0, o0, a0, c0, e0, hb0, hc0, hI0⟩ := hl 0 (by omega)
  subst e0
  rw [← row_at (by omega)] at hc0
  simp only [Nat.add_zero] at hc0
  have C4 := Lib.hid (fun W (h : Ext w W) => f110_c ax na ca x W (hx.ext h) hxn (by omega) (fun j hj => by have := hxb.2 j hj; omega))
  have C5 := Lib.hid (fun W (h : Ext w W) => f110_c bx nb cb y W (hy.ext h) hyn (by omega) (fun j hj => by have := hyb.2 j hj; omega))
  have hfe : fitsB x y t = (decide (t.length = x.length) && decide ((row t 0).length = y.length)) := by unfold fitsB; rw [h1, h2, h3]; rfl
  unfold fitsErr
  rw [hfe]
  subst hn hxn hyn
  clear h1 h2 h3 hI0 H0 hfe hin hxb hyb
  generalize (row t 0).length = M at *
  by_cases g1 : t.length = x.length
  case neg =>
    have d1 : ((t.length : Int) != (x.length : Int)) = true := by simp; omega
    rw [if_neg (by simp [g1])]
    clear g1
    go_enter Try.func80, Try.ntmps80
    go_wp2_with fail
    refine C1.out.mono ?_
    rintro e w' ⟨rfl, rfl⟩
    go_wp2_with fail
    refine C2.out.mono ?_
    rintro e w' ⟨rfl, rfl⟩
    go_wp2_with fail
    refine C3.out.mono ?_
    rintro e w1 ⟨rfl, hE1⟩
    go_wp2_with fail
    refine (f55_r 0 _ _ _ [0, 0, 0] _ (ints_new3 _ _ _ _ _ _ rfl) rfl (by simp) rfl).mono ?_
    rintro e w' ⟨rfl, rfl⟩
    go_wp2_with fail
    go_ret
    exact ⟨rfl, hE1.trans' (ext_alloc _ _)⟩
  have d1 : ((t.length : Int) != (x.length : Int)) = false := by simp; omega
  by_cases g2 : M = y.length
  case neg =>
    have d2 : ((M : Int) != (y.length : Int)) = true := by simp; omega
    rw [if_neg (by simp [g2])]
    clear g1 g2
    go_enter Try.func80, Try.ntmps80
    go_wp2_with fail
    refine C1.out.mono ?_
    rintro e w' ⟨rfl, rfl⟩
    go_wp2_with fail
    refine C2.out.mono ?_
    rintro e w' ⟨rfl, rfl⟩
    go_wp2_with fail
    refine C3.out.mono ?_
    rintro e w1 ⟨rfl, hE1⟩
    go_wp2_with fail
    refine (f55_r 0 _ _ _ [0, 0, 0] _ (ints_new3 _ _ _ _ _ _ rfl) rfl (by simp) rfl).mono ?_
    rintro e w' ⟨rfl, rfl⟩
    have hE2 := hE1.trans' (ext_alloc w1 (.cells #[.int .i64 0, .int .i64 0, .int .i64 0] 25))
    have hc2 := (hE2.cell' hb0).trans hc0
    go_wp2_with fail
    go_ret
    exact ⟨rfl, hE2⟩
  have d2 : ((M : Int) != (y.length : Int)) = false := by simp; omega
  rw [if_pos (by simp [g1, g2])]
  clear g1 g2
  by_cases hs : sm x = sm y
  all_goals
    first
      | (have d3 : (sm x != sm y) = false := by simp [hs]
         rw [if_pos hs])
      | (have d3 : (sm x != sm y) = true := by simp [hs]
         rw [if_neg hs])
    clear hs
    generalize sm x = s1 at *
    generalize sm y = s2 at *
    go_enter Try.func80, Try.ntmps80
    go_wp2_with fail
    refine C1.out.mono ?_
    rintro e w' ⟨rfl, rfl⟩
    go_wp2_with fail
    refine C2.out.mono ?_
    rintro e w' ⟨rfl, rfl⟩
    go_wp2_with fail
    refine C3.out.mono ?_
    rintro e w1 ⟨rfl, hE1⟩
    go_wp2_with fail
    refine (f55_r 0 _ _ _ [0, 0, 0] _ (ints_new3 _ _ _ _ _ _ rfl) rfl (by simp) rfl).mono ?_
    rintro e w' ⟨rfl, rfl⟩
    have hE2 := hE1.trans' (ext_alloc w1 (.cells #[.int .i64 0, .int .i64 0, .int .i64 0] 25))
    have hc2 := (hE2.cell' hb0).trans hc0
    go_wp2_with fail
    refine (C4.out _ hE2).mono ?_
    rintro e w' ⟨rfl, rfl⟩
    go_wp2_with fail
    refine (C5.out _ hE2).mono ?_
    rintro e w' ⟨rfl, rfl⟩
    go_wp2_with fail
    go_ret
    exact ⟨rfl, hE2⟩

end Go.Proofs.Ytaidoaggmllcfaa
