/- RoadPrices: the law's walk. -/
import Derived.Test.YtbejgbflipoboaaT25
import Derived.Test.YtbejgbflipoboaaT26
import Derived.Test.YtbejgbflipoboaaT27
namespace Go.Proofs.Ytbejgbflipoboaa
open Go.RowKit
attribute [local go_sem] GW.cell
theorem pri_ok {N : Int} {R : List Road} {x : List Int} (h : okF N R x = true) : prcErr N R x (chpL N R x) (prcV N R x) = 0 ∧ prcErr N R x (cheapF N R x) (prcV N R x) = 0 ∧ (chpL N R x).length ≤ 12 := by
  obtain ⟨M, rfl, h2, h3, h4, h5, h6, h7, h8, h9⟩ := okF_flow h
  obtain ⟨M', e, k2, k3, k4, k5, k6⟩ := chpL_ok h
  obtain rfl : M = M' := by omega
  have e : prcV (M : Int) R x = prcL M R (cheapF (M : Int) R x) := by unfold prcV; rw [if_pos h, Int.toNat_natCast]
  rw [e]
  exact ⟨prices_prove h4 h7 (by omega) k5 (by omega), prices_prove h4 h7 (by omega) h7 (by omega), by rw [k5.1]; exact h3.r12⟩
theorem chpL_none {N : Int} {R : List Road} {x : List Int} (h : okF N R x = false) : chpL N R x = [] := by unfold chpL; rw [h]; rfl
set_option maxRecDepth 20000 in
set_option maxHeartbeats 8000000 in
theorem lawPri (w : World) (N : Int) (a : Option Addr) (n c : Nat) (R : List Road) (hl : Roads w a R) (hn : R.length = n) (a1 : Option Addr) (n1 c1 : Nat) (y : List Int) (hy : Ints w a1 y) (hn1 : y.length = n1) :
    Calls Try.prog 10 #[.agg #[.int .i64 N, .slice a n c, .slice a1 n1 c1]] w fun e w' => e = .returned (.bool true) ∧ Ext w w' := by
  subst hn hn1
  have hE0 := ext_alloc w (.cells #[.int .i64 N, .slice a R.length c, .slice a1 y.length c1] 27)
  have HB := Lib.hid (BlkC.new w #[.int .i64 N, .slice a R.length c, .slice a1 y.length c1] 27)
  have hz1 := HB.out.lt
  have g0 := HB.out.cellv 0 (v := .int .i64 N) rfl
  have g1 := HB.out.cellv 1 (v := .slice a R.length c) rfl
  have g2 := HB.out.cellv 2 (v := .slice a1 y.length c1) rfl
  go_enter Try.func10, Try.ntmps10
  go_wp2_with fail
  generalize (w.alloc (.cells #[.int .i64 N, .slice a R.length c, .slice a1 y.length c1] 27)) = w0 at *
  refine (f17_c N a R.length c a1 y.length c1 _).mono ?_
  rintro e w1 ⟨rfl, hX1⟩
  have hE1 := hE0.trans' hX1
  rcases Bool.eq_false_or_eq_true (decide (60 < (R.length : Int)) || decide (60 < (y.length : Int))) with h1 | h1
  · rw [h1]
    go_wp2_with fail
    refine (f19_c _).mono ?_
    rintro e w9 ⟨rfl, hX9⟩
    go_wp2_with fail
    go_ret
    exact ⟨rfl, hE1.trans' hX9⟩
  rw [h1]
  rw [Bool.or_eq_false_iff] at h1
  have h2 := of_decide_eq_false h1.1
  have h3 := of_decide_eq_false h1.2
  clear h1
  clear g0 g1 g2 hz1
  have g0 := (HB.out.ext hX1).cellv 0 (v := .int .i64 N) rfl
  have g1 := (HB.out.ext hX1).cellv 1 (v := .slice a R.length c) rfl
  have g2 := (HB.out.ext hX1).cellv 2 (v := .slice a1 y.length c1) rfl
  have hz1 := (HB.out.ext hX1).lt
  have hpl := prcV_len (N := N) (R := R) (x := y)
  have hcl := cheapF_len (N := N) (R := R) (x := y)
  have HP := Lib.hid (fun h => pri_ok (N := N) (R := R) (x := y) h)
  have HN0 : Hid (okF N R y = false → prcV N R y = [] ∧ chpL N R y = []) := Lib.hid (fun h => ⟨by unfold prcV; rw [h]; rfl, chpL_none h⟩)
  have Herr : Hid (okF N R y = true → excErr N R y = 0) := Lib.hid (fun h => by obtain ⟨M, rfl, _, _, h4, _⟩ := okF_flow h; exact h4)
  go_wp2_with fail
  refine (f42_c N a R.length c R a1 y.length c1 y _ (hl.ext hE1) rfl (by omega) (hy.ext hE1) rfl (by omega)).mono ?_
  rintro e w2 ⟨a2, c2, rfl, hI2, hX2⟩
  have hE2 := hE1.trans' hX2
  have hY2 := hX1.trans' hX2
  clear g0 g1 g2 hz1
  have g0 := (HB.out.ext hY2).cellv 0 (v := .int .i64 N) rfl
  have g1 := (HB.out.ext hY2).cellv 1 (v := .slice a R.length c) rfl
  have g2 := (HB.out.ext hY2).cellv 2 (v := .slice a1 y.length c1) rfl
  have hz1 := (HB.out.ext hY2).lt
  generalize hPV : prcV N R y = P at *
  have HPV := Lib.hid hPV
  clear hPV
  go_wp2_with fail
  refine (f48_c N a R.length c R a1 y.length c1 y _ (hl.ext hE2) rfl (by omega) (hy.ext hE2) rfl (by omega)).mono ?_
  rintro e w3 ⟨a3, c3, rfl, hI3, hX3⟩
  have hE3 := hE2.trans' hX3
  have hY3 := hY2.trans' hX3
  have HI2 := Lib.hid (hI2.ext hX3)
  have HI3 := Lib.hid hI3
  clear g0 g1 g2 hz1
  have g0 := (HB.out.ext hY3).cellv 0 (v := .int .i64 N) rfl
  have g1 := (HB.out.ext hY3).cellv 1 (v := .slice a R.length c) rfl
  have g2 := (HB.out.ext hY3).cellv 2 (v := .slice a1 y.length c1) rfl
  have hz1 := (HB.out.ext hY3).lt
  clear hI2 hI3
  have hEE : (excErr N R y != excErr N R y) = false := by simp
  rcases Bool.eq_false_or_eq_true (okF N R y) with hb | hb
  case inr =>
    obtain ⟨k1, k2⟩ := HN0.out hb
    rw [hb]
    subst k1
    clear HP HN0 hb Herr HI3
    rw [k2]
    clear k2
    generalize excErr N R y = E at *
    have q0 : ((false : Bool) != false) = false := rfl
    go_wp2_with fail
    refine (f19_c _).mono ?_
    rintro e w9 ⟨rfl, hX9⟩
    go_wp2_with fail
    go_ret
    exact ⟨rfl, hE3.trans' hX9⟩
  obtain ⟨k1, k2, k3⟩ := HP.out hb
  have k4 := Herr.out hb
  rw [k4] at hEE ⊢
  rw [hb]
  have C28 := Lib.hid (fun W (hE : Ext w W) => f28_c N a R.length c R a1 y.length c1 y W (hl.ext hE) rfl (by omega) (hy.ext hE) rfl (by omega))
  rw [hb, k4] at C28
  have K1 := Lib.hid k1
  have K2 := Lib.hid k2
  clear HP HN0 hb Herr k1 k2 k4 HPV
  generalize chpL N R y = L at *
  generalize hCF : cheapF N R y = F at *
  clear hCF
  have q0 : ((true : Bool) != true) = false := rfl
  go_wp2_with fail
  refine (C28.out _ hE3).mono ?_
  rintro e w4 ⟨a4, c4, rfl, hI4, hX4⟩
  have hE4 := hE3.trans' hX4
  have hY4 := hY3.trans' hX4
  have HI4 := Lib.hid hI4
  clear C28 hI4
  clear g0 g1 g2 hz1
  have g0 := (HB.out.ext hY4).cellv 0 (v := .int .i64 N) rfl
  have g1 := (HB.out.ext hY4).cellv 1 (v := .slice a R.length c) rfl
  have g2 := (HB.out.ext hY4).cellv 2 (v := .slice a1 y.length c1) rfl
  have hz1 := (HB.out.ext hY4).lt
  have C39 := f39_c N a R.length c R a1 y.length c1 y a3 L.length c3 L a2 P.length c2 P w4 (hl.ext hE4) rfl (by omega) (hy.ext hE4) rfl (by omega) (HI3.out.ext hX4) rfl (by omega) (HI2.out.ext hX4) rfl (by omega)
  rw [K1.out] at C39
  have C39 := Lib.hid C39
  have C38 := Lib.hid (fun W (hW : Ext w4 W) => f38_c N a R.length c R a1 y.length c1 y a4 F.length c4 F a2 P.length c2 P W (hl.ext (hE4.trans' hW)) rfl (by omega) (hy.ext (hE4.trans' hW)) rfl (by omega) (HI4.out.ext hW) rfl (by omega) (HI2.out.ext (hX4.trans' hW)) rfl (by omega))
  rw [K2.out] at C38
  go_wp2_with fail
  refine C39.out.mono ?_
  rintro e w5 ⟨rfl, hX5⟩
  have hE5 := hE4.trans' hX5
  have hY5 := hY4.trans' hX5
  clear g0 g1 g2 hz1
  have g0 := (HB.out.ext hY5).cellv 0 (v := .int .i64 N) rfl
  have g1 := (HB.out.ext hY5).cellv 1 (v := .slice a R.length c) rfl
  have g2 := (HB.out.ext hY5).cellv 2 (v := .slice a1 y.length c1) rfl
  have hz1 := (HB.out.ext hY5).lt
  go_wp2_with fail
  refine (C38.out _ hX5).mono ?_
  rintro e w6 ⟨rfl, hX6⟩
  have hE6 := hE5.trans' hX6
  go_wp2_with fail
  refine (f19_c _).mono ?_
  rintro e w9 ⟨rfl, hX9⟩
  go_wp2_with fail
  go_ret
  exact ⟨rfl, hE6.trans' hX9⟩
end Go.Proofs.Ytbejgbflipoboaa
