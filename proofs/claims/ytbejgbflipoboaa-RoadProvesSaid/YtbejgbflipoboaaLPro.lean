/- RoadProves: the law's walk. -/
import Derived.Test.YtbejgbflipoboaaT14
import Derived.Test.YtbejgbflipoboaaT26
namespace Go.Proofs.Ytbejgbflipoboaa
open Go.RowKit
attribute [local go_sem] GW.cell
set_option maxRecDepth 20000 in
set_option maxHeartbeats 8000000 in
theorem lawPro (w : World) (N : Int) (a : Option Addr) (n c : Nat) (R : List Road) (hl : Roads w a R) (hn : R.length = n) (a1 : Option Addr) (n1 c1 : Nat) (y : List Int) (hy : Ints w a1 y) (hn1 : y.length = n1) (a2 : Option Addr) (n2 c2 : Nat) (x : List Int) (hx : Ints w a2 x) (hn2 : x.length = n2) (a3 : Option Addr) (n3 c3 : Nat) (p : List Int) (hp : Ints w a3 p) (hn3 : p.length = n3) :
    Calls Try.prog 8 #[.agg #[.int .i64 N, .slice a n c, .slice a1 n1 c1], .slice a2 n2 c2, .slice a3 n3 c3] w fun e w' => e = .returned (.bool true) ∧ Ext w w' := by
  subst hn hn1 hn2 hn3
  have hE0 := ext_alloc w (.cells #[.int .i64 N, .slice a R.length c, .slice a1 y.length c1] 27)
  have HB := Lib.hid (BlkC.new w #[.int .i64 N, .slice a R.length c, .slice a1 y.length c1] 27)
  have hz1 := HB.out.lt
  have g0 := HB.out.cellv 0 (v := .int .i64 N) rfl
  have g1 := HB.out.cellv 1 (v := .slice a R.length c) rfl
  have g2 := HB.out.cellv 2 (v := .slice a1 y.length c1) rfl
  go_enter Try.func8, Try.ntmps8
  go_wp2_with fail
  generalize (w.alloc (.cells #[.int .i64 N, .slice a R.length c, .slice a1 y.length c1] 27)) = w0 at *
  refine (f17_c N a R.length c a1 y.length c1 _).mono ?_
  rintro e w1 ⟨rfl, hX1⟩
  have hE1 := hE0.trans' hX1
  rcases Bool.eq_false_or_eq_true (decide (60 < (R.length : Int)) || decide (60 < (y.length : Int))) with h1 | h1
  · rw [h1]
    go_wp2_with fail
    refine (f19_c _).mono ?_
    rintro e w9 ⟨rfl, hX9⟩
    go_wp2_with fail
    go_ret
    exact ⟨rfl, hE1.trans' hX9⟩
  rw [h1]
  rw [Bool.or_eq_false_iff] at h1
  have h2 := of_decide_eq_false h1.1
  have h3 := of_decide_eq_false h1.2
  clear h1
  clear g0 g1 g2 hz1
  have g0 := (HB.out.ext hX1).cellv 0 (v := .int .i64 N) rfl
  have g1 := (HB.out.ext hX1).cellv 1 (v := .slice a R.length c) rfl
  have g2 := (HB.out.ext hX1).cellv 2 (v := .slice a1 y.length c1) rfl
  have hz1 := (HB.out.ext hX1).lt
  go_wp2_with fail
  refine (f18_c a2 x.length c2 _).mono ?_
  rintro e w8 ⟨rfl, rfl⟩
  by_cases hb_x : 60 < x.length
  · rw [decide_eq_true (show (60 : Int) < (x.length : Int) by omega)]
    go_wp2_with fail
    refine (f19_c _).mono ?_
    rintro e w9 ⟨rfl, hX9⟩
    go_wp2_with fail
    go_ret
    exact ⟨rfl, hE1.trans' hX9⟩
  rw [decide_eq_false (show ¬ (60 : Int) < (x.length : Int) by omega)]
  go_wp2_with fail
  refine (f18_c a3 p.length c3 _).mono ?_
  rintro e w8 ⟨rfl, rfl⟩
  by_cases hb_p : 60 < p.length
  · rw [decide_eq_true (show (60 : Int) < (p.length : Int) by omega)]
    go_wp2_with fail
    refine (f19_c _).mono ?_
    rintro e w9 ⟨rfl, hX9⟩
    go_wp2_with fail
    go_ret
    exact ⟨rfl, hE1.trans' hX9⟩
  rw [decide_eq_false (show ¬ (60 : Int) < (p.length : Int) by omega)]
  go_wp2_with fail
  refine (f38_c N a R.length c R a1 y.length c1 y a2 x.length c2 x a3 p.length c3 p _ (hl.ext hE1) rfl (by omega) (hy.ext hE1) rfl (by omega) (hx.ext hE1) rfl (by omega) (hp.ext hE1) rfl (by omega)).mono ?_
  rintro e w2 ⟨rfl, hX2⟩
  have hE2 := hE1.trans' hX2
  have hY2 := hX1.trans' hX2
  clear g0 g1 g2 hz1
  have g0 := (HB.out.ext hY2).cellv 0 (v := .int .i64 N) rfl
  have g1 := (HB.out.ext hY2).cellv 1 (v := .slice a R.length c) rfl
  have g2 := (HB.out.ext hY2).cellv 2 (v := .slice a1 y.length c1) rfl
  have hz1 := (HB.out.ext hY2).lt
  go_wp2_with fail
  refine (f39_c N a R.length c R a1 y.length c1 y a2 x.length c2 x a3 p.length c3 p _ (hl.ext hE2) rfl (by omega) (hy.ext hE2) rfl (by omega) (hx.ext hE2) rfl (by omega) (hp.ext hE2) rfl (by omega)).mono ?_
  rintro e w3 ⟨rfl, hX3⟩
  have hE3 := hE2.trans' hX3
  have hY3 := hY2.trans' hX3
  clear g0 g1 g2 hz1
  have g0 := (HB.out.ext hY3).cellv 0 (v := .int .i64 N) rfl
  have g1 := (HB.out.ext hY3).cellv 1 (v := .slice a R.length c) rfl
  have g2 := (HB.out.ext hY3).cellv 2 (v := .slice a1 y.length c1) rfl
  have hz1 := (HB.out.ext hY3).lt
  have HP := Lib.hid (fun h => proves (N := N) (R := R) (x := y) (f := x) (p := p) h)
  by_cases h0 : prcErr N R y x p = 0
  case neg =>
    have hb : (prcErr N R y x p != 0) = true := by simp [h0]
    have hEE : (prcErr N R y x p != prcErr N R y x p) = false := by simp
    clear h0 HP
    generalize prcErr N R y x p = E at *
    go_wp2_with fail
    refine (f19_c _).mono ?_
    rintro e w9 ⟨rfl, hX9⟩
    go_wp2_with fail
    go_ret
    exact ⟨rfl, hE3.trans' hX9⟩
  obtain ⟨k1, k2, k3, k4⟩ := HP.out h0
  rw [h0]
  clear h0 HP
  have C26 := Lib.hid (fun W (hE : Ext w W) => f26_c N a R.length c R a1 y.length c1 y W (hl.ext hE) rfl (by omega) (hy.ext hE) rfl (by omega))
  have C20 := Lib.hid (fun W (hE : Ext w W) => f20_c N a R.length c R a1 y.length c1 y a2 x.length c2 x W (hl.ext hE) rfl (by omega) (hy.ext hE) rfl (by omega) (hx.ext hE) rfl (by omega))
  rw [k2, k3] at C26
  rw [k1, k4] at C20
  clear k1 k2 k3 k4
  generalize lstF N R y = V at *
  go_wp2_with fail
  refine (C26.out _ hE3).mono ?_
  rintro e w4 ⟨rfl, hX4⟩
  have hE4 := hE3.trans' hX4
  have hY4 := hY3.trans' hX4
  clear g0 g1 g2 hz1
  have g0 := (HB.out.ext hY4).cellv 0 (v := .int .i64 N) rfl
  have g1 := (HB.out.ext hY4).cellv 1 (v := .slice a R.length c) rfl
  have g2 := (HB.out.ext hY4).cellv 2 (v := .slice a1 y.length c1) rfl
  have hz1 := (HB.out.ext hY4).lt
  go_wp2_with fail
  refine (C20.out _ hE4).mono ?_
  rintro e w5 ⟨rfl, hX5⟩
  have hE5 := hE4.trans' hX5
  have q1 : (V == V) = true := by simp
  go_wp2_with fail
  refine (f19_c _).mono ?_
  rintro e w9 ⟨rfl, hX9⟩
  go_wp2_with fail
  go_ret
  exact ⟨rfl, hE5.trans' hX9⟩
end Go.Proofs.Ytbejgbflipoboaa
