/- RoadRounds: the law's walk. -/
import Derived.Test.YtbejgbflipoboaaT32
import Derived.Test.YtbejgbflipoboaaT12
import Derived.Test.YtbejgbflipoboaaT13
namespace Go.Proofs.Ytbejgbflipoboaa
open Go.RowKit
attribute [local go_sem] GW.cell
theorem flowV_bd {N : Int} {R : List Road} {y x : List Int} (h : flowErr N R y x = 0) : 0 ≤ flowV N R y x ∧ flowV N R y x ≤ 71280 := by
  have h1 := flowErr_ok h
  have hok := netErr_ok (excErr_ok h1.1).1
  have h2 := costTo_bd hok (flowB_ok h1.2.1).2 (Nat.le_refl R.length)
  have := hok.r12
  rw [flowV_yes h]; omega
set_option maxRecDepth 20000 in
set_option maxHeartbeats 8000000 in
theorem lawRou (w : World) (N : Int) (a : Option Addr) (n c : Nat) (R : List Road) (hl : Roads w a R) (hn : R.length = n) (a1 : Option Addr) (n1 c1 : Nat) (y : List Int) (hy : Ints w a1 y) (hn1 : y.length = n1) (a2 : Option Addr) (n2 c2 : Nat) (x : List Int) (hx : Ints w a2 x) (hn2 : x.length = n2) (a3 : Option Addr) (n3 c3 : Nat) (p : List Int) (hp : Ints w a3 p) (hn3 : p.length = n3) :
    Calls Try.prog 15 #[.agg #[.int .i64 N, .slice a n c, .slice a1 n1 c1], .slice a2 n2 c2, .slice a3 n3 c3] w fun e w' => e = .returned (.bool true) ∧ Ext w w' := by
  subst hn hn1 hn2 hn3
  have hE0 := ext_alloc w (.cells #[.int .i64 N, .slice a R.length c, .slice a1 y.length c1] 27)
  have HB := Lib.hid (BlkC.new w #[.int .i64 N, .slice a R.length c, .slice a1 y.length c1] 27)
  have hz1 := HB.out.lt
  have g0 := HB.out.cellv 0 (v := .int .i64 N) rfl
  have g1 := HB.out.cellv 1 (v := .slice a R.length c) rfl
  have g2 := HB.out.cellv 2 (v := .slice a1 y.length c1) rfl
  go_enter Try.func15, Try.ntmps15
  go_wp2_with fail
  generalize (w.alloc (.cells #[.int .i64 N, .slice a R.length c, .slice a1 y.length c1] 27)) = w0 at *
  refine (f17_c N a R.length c a1 y.length c1 _).mono ?_
  rintro e w1 ⟨rfl, hX1⟩
  have hE1 := hE0.trans' hX1
  rcases Bool.eq_false_or_eq_true (decide (60 < (R.length : Int)) || decide (60 < (y.length : Int))) with h1 | h1
  · rw [h1]
    go_wp2_with fail
    refine (f19_c _).mono ?_
    rintro e w9 ⟨rfl, hX9⟩
    go_wp2_with fail
    go_ret
    exact ⟨rfl, hE1.trans' hX9⟩
  rw [h1]
  rw [Bool.or_eq_false_iff] at h1
  have h2 := of_decide_eq_false h1.1
  have h3 := of_decide_eq_false h1.2
  clear h1
  clear g0 g1 g2 hz1
  have g0 := (HB.out.ext hX1).cellv 0 (v := .int .i64 N) rfl
  have g1 := (HB.out.ext hX1).cellv 1 (v := .slice a R.length c) rfl
  have g2 := (HB.out.ext hX1).cellv 2 (v := .slice a1 y.length c1) rfl
  have hz1 := (HB.out.ext hX1).lt
  go_wp2_with fail
  refine (f18_c a2 x.length c2 _).mono ?_
  rintro e w8 ⟨rfl, rfl⟩
  by_cases hb_x : 60 < x.length
  · rw [decide_eq_true (show (60 : Int) < (x.length : Int) by omega)]
    go_wp2_with fail
    refine (f19_c _).mono ?_
    rintro e w9 ⟨rfl, hX9⟩
    go_wp2_with fail
    go_ret
    exact ⟨rfl, hE1.trans' hX9⟩
  rw [decide_eq_false (show ¬ (60 : Int) < (x.length : Int) by omega)]
  go_wp2_with fail
  refine (f18_c a3 p.length c3 _).mono ?_
  rintro e w8 ⟨rfl, rfl⟩
  by_cases hb_p : 60 < p.length
  · rw [decide_eq_true (show (60 : Int) < (p.length : Int) by omega)]
    go_wp2_with fail
    refine (f19_c _).mono ?_
    rintro e w9 ⟨rfl, hX9⟩
    go_wp2_with fail
    go_ret
    exact ⟨rfl, hE1.trans' hX9⟩
  rw [decide_eq_false (show ¬ (60 : Int) < (p.length : Int) by omega)]
  go_wp2_with fail
  refine (f46_c N a R.length c R a1 y.length c1 y a2 x.length c2 x a3 p.length c3 p _ (hl.ext hE1) rfl (by omega) (hy.ext hE1) rfl (by omega) (hx.ext hE1) rfl (by omega) (hp.ext hE1) rfl (by omega)).mono ?_
  rintro e w2 ⟨rfl, hX2⟩
  have hE2 := hE1.trans' hX2
  have hY2 := hX1.trans' hX2
  clear g0 g1 g2 hz1
  have g0 := (HB.out.ext hY2).cellv 0 (v := .int .i64 N) rfl
  have g1 := (HB.out.ext hY2).cellv 1 (v := .slice a R.length c) rfl
  have g2 := (HB.out.ext hY2).cellv 2 (v := .slice a1 y.length c1) rfl
  have hz1 := (HB.out.ext hY2).lt
  go_wp2_with fail
  refine (f50_c N a R.length c R a1 y.length c1 y a2 x.length c2 x a3 p.length c3 p _ (hl.ext hE2) rfl (by omega) (hy.ext hE2) rfl (by omega) (hx.ext hE2) rfl (by omega) (hp.ext hE2) rfl (by omega)).mono ?_
  rintro e w3 ⟨rfl, hX3⟩
  have hE3 := hE2.trans' hX3
  have hY3 := hY2.trans' hX3
  clear g0 g1 g2 hz1
  have g0 := (HB.out.ext hY3).cellv 0 (v := .int .i64 N) rfl
  have g1 := (HB.out.ext hY3).cellv 1 (v := .slice a R.length c) rfl
  have g2 := (HB.out.ext hY3).cellv 2 (v := .slice a1 y.length c1) rfl
  have hz1 := (HB.out.ext hY3).lt
  go_wp2_with fail
  refine (f47_c N a R.length c R a1 y.length c1 y a2 x.length c2 x a3 p.length c3 p _ (hl.ext hE3) rfl (by omega) (hy.ext hE3) rfl (by omega) (hx.ext hE3) rfl (by omega) (hp.ext hE3) rfl (by omega)).mono ?_
  rintro e w4 ⟨a4, c4, rfl, hI4, hX4⟩
  have hE4 := hE3.trans' hX4
  have hY4 := hY3.trans' hX4
  clear g0 g1 g2 hz1
  have g0 := (HB.out.ext hY4).cellv 0 (v := .int .i64 N) rfl
  have g1 := (HB.out.ext hY4).cellv 1 (v := .slice a R.length c) rfl
  have g2 := (HB.out.ext hY4).cellv 2 (v := .slice a1 y.length c1) rfl
  have hz1 := (HB.out.ext hY4).lt
  have HI4 := Lib.hid hI4
  clear hI4
  go_wp2_with fail
  refine (f54_c N a R.length c R a1 y.length c1 y a2 x.length c2 x a3 p.length c3 p _ (hl.ext hE4) rfl (by omega) (hy.ext hE4) rfl (by omega) (hx.ext hE4) rfl (by omega) (hp.ext hE4) rfl (by omega)).mono ?_
  rintro e w5 ⟨a5, c5, rfl, hI5, hX5⟩
  have hE5 := hE4.trans' hX5
  have hY5 := hY4.trans' hX5
  clear g0 g1 g2 hz1
  have g0 := (HB.out.ext hY5).cellv 0 (v := .int .i64 N) rfl
  have g1 := (HB.out.ext hY5).cellv 1 (v := .slice a R.length c) rfl
  have g2 := (HB.out.ext hY5).cellv 2 (v := .slice a1 y.length c1) rfl
  have hz1 := (HB.out.ext hY5).lt
  have HI5 := Lib.hid hI5
  have HI45 := Lib.hid (HI4.out.ext hX5)
  clear hI5
  have HRn := Lib.hid (fun h => rounds (N := N) (R := R) (x := y) (f := x) (c := p) h)
  have hTl : (turnV N R y x p).length ≤ 1000000 := by
    unfold turnV
    split
    · rw [turnsTo_length]; omega
    · simp
  have hVV : (rndV N R y x p != rndV N R y x p) = false := by simp
  have hEE : (rndErr N R y x p != rndErr N R y x p) = false := by simp
  have C34 := Lib.hid (fun W (hE : Ext w5 W) => f34_c a4 a5 (turnV N R y x p).length c4 (turnV N R y x p).length c5 (turnV N R y x p) (turnV N R y x p) W (HI45.out.ext hE) (HI5.out.ext hE) rfl rfl hTl hTl)
  have hsm : sameI (turnV N R y x p) (turnV N R y x p) = true := by simp [sameI]
  rw [hsm] at C34
  clear hsm
  by_cases h0 : rndErr N R y x p = 0
  case neg =>
    have hb : (rndErr N R y x p != 0) = true := by simp [h0]
    clear h0 HRn
    generalize rndErr N R y x p = E at *
    generalize rndV N R y x p = V at *
    generalize turnV N R y x p = T at *
    go_wp2_with fail
    refine (C34.out _ (Ext.rfl' _)).mono ?_
    rintro e w6 ⟨rfl, hX6⟩
    have hE6 := hE5.trans' hX6
    go_wp2_with fail
    refine (f19_c _).mono ?_
    rintro e w9 ⟨rfl, hX9⟩
    go_wp2_with fail
    go_ret
    exact ⟨rfl, hE6.trans' hX9⟩
  obtain ⟨k1, k2, k3⟩ := HRn.out h0
  rw [h0] at hEE ⊢
  clear h0 HRn
  have C20 := Lib.hid (fun W (hE : Ext w W) => f20_c N a R.length c R a1 y.length c1 y a2 x.length c2 x W (hl.ext hE) rfl (by omega) (hy.ext hE) rfl (by omega) (hx.ext hE) rfl (by omega))
  have C20' := Lib.hid (fun W (hE : Ext w5 W) => f20_c N a R.length c R a1 y.length c1 y a4 (turnV N R y x p).length c4 (turnV N R y x p) W (hl.ext (hE5.trans' hE)) rfl (by omega) (hy.ext (hE5.trans' hE)) rfl (by omega) (HI45.out.ext hE) rfl hTl)
  have b1 := flowV_bd k1
  have b2 := flowV_bd k2
  rw [k3] at b2
  rw [k1] at C20
  rw [k2, k3] at C20'
  clear k1 k2 k3
  generalize flowV N R y x = F at *
  generalize rndV N R y x p = V at *
  generalize turnV N R y x p = T at *
  go_wp2_with fail
  refine (C34.out _ (Ext.rfl' _)).mono ?_
  rintro e w6 ⟨rfl, hX6⟩
  have hE6 := hE5.trans' hX6
  have hY6 := hY5.trans' hX6
  clear g0 g1 g2 hz1
  have g0 := (HB.out.ext hY6).cellv 0 (v := .int .i64 N) rfl
  have g1 := (HB.out.ext hY6).cellv 1 (v := .slice a R.length c) rfl
  have g2 := (HB.out.ext hY6).cellv 2 (v := .slice a1 y.length c1) rfl
  have hz1 := (HB.out.ext hY6).lt
  go_wp2_with fail
  refine (C20.out _ hE6).mono ?_
  rintro e w7 ⟨rfl, hX7⟩
  have hE7 := hE6.trans' hX7
  have hY7 := hY6.trans' hX7
  clear g0 g1 g2 hz1
  have g0 := (HB.out.ext hY7).cellv 0 (v := .int .i64 N) rfl
  have g1 := (HB.out.ext hY7).cellv 1 (v := .slice a R.length c) rfl
  have g2 := (HB.out.ext hY7).cellv 2 (v := .slice a1 y.length c1) rfl
  have hz1 := (HB.out.ext hY7).lt
  go_wp2_with fail
  refine (C20'.out _ (hX6.trans' hX7)).mono ?_
  rintro e w8 ⟨rfl, hX8⟩
  have hE8 := hE7.trans' hX8
  go_wp2_with fail
  refine (f19_c _).mono ?_
  rintro e w9 ⟨rfl, hX9⟩
  go_wp2_with fail
  go_ret
  exact ⟨rfl, hE8.trans' hX9⟩
end Go.Proofs.Ytbejgbflipoboaa
