/- RoadLeast: the law's walk. -/
import Derived.Test.YtbejgbflipoboaaT25
namespace Go.Proofs.Ytbejgbflipoboaa
open Go.RowKit
attribute [local go_sem] GW.cell
theorem cheap_flow {N : Int} {R : List Road} {x : List Int} (h : okF N R x = true) : flowErr N R x (cheapF N R x) = 0 ∧ flowV N R x (cheapF N R x) = lstF N R x := by
  obtain ⟨M, rfl, h2, h3, h4, h5, h6, h7, h8, h9⟩ := okF_flow h
  have := (flowErr_iff h4).2 h7
  exact ⟨this, by rw [flowV_yes this, h8]⟩
set_option maxRecDepth 20000 in
set_option maxHeartbeats 8000000 in
theorem lawLea (w : World) (N : Int) (a : Option Addr) (n c : Nat) (R : List Road) (hl : Roads w a R) (hn : R.length = n) (a1 : Option Addr) (n1 c1 : Nat) (y : List Int) (hy : Ints w a1 y) (hn1 : y.length = n1) :
    Calls Try.prog 4 #[.agg #[.int .i64 N, .slice a n c, .slice a1 n1 c1]] w fun e w' => e = .returned (.bool true) ∧ Ext w w' := by
  subst hn hn1
  have hE0 := ext_alloc w (.cells #[.int .i64 N, .slice a R.length c, .slice a1 y.length c1] 27)
  have HB := Lib.hid (BlkC.new w #[.int .i64 N, .slice a R.length c, .slice a1 y.length c1] 27)
  have hz1 := HB.out.lt
  have g0 := HB.out.cellv 0 (v := .int .i64 N) rfl
  have g1 := HB.out.cellv 1 (v := .slice a R.length c) rfl
  have g2 := HB.out.cellv 2 (v := .slice a1 y.length c1) rfl
  go_enter Try.func4, Try.ntmps4
  go_wp2_with fail
  generalize (w.alloc (.cells #[.int .i64 N, .slice a R.length c, .slice a1 y.length c1] 27)) = w0 at *
  refine (f17_c N a R.length c a1 y.length c1 _).mono ?_
  rintro e w1 ⟨rfl, hX1⟩
  have hE1 := hE0.trans' hX1
  rcases Bool.eq_false_or_eq_true (decide (60 < (R.length : Int)) || decide (60 < (y.length : Int))) with h1 | h1
  · rw [h1]
    go_wp2_with fail
    refine (f19_c _).mono ?_
    rintro e w9 ⟨rfl, hX9⟩
    go_wp2_with fail
    go_ret
    exact ⟨rfl, hE1.trans' hX9⟩
  rw [h1]
  rw [Bool.or_eq_false_iff] at h1
  have h2 := of_decide_eq_false h1.1
  have h3 := of_decide_eq_false h1.2
  clear h1
  clear g0 g1 g2 hz1
  have g0 := (HB.out.ext hX1).cellv 0 (v := .int .i64 N) rfl
  have g1 := (HB.out.ext hX1).cellv 1 (v := .slice a R.length c) rfl
  have g2 := (HB.out.ext hX1).cellv 2 (v := .slice a1 y.length c1) rfl
  have hz1 := (HB.out.ext hX1).lt
  go_wp2_with fail
  refine (f26_c N a R.length c R a1 y.length c1 y _ (hl.ext hE1) rfl (by omega) (hy.ext hE1) rfl (by omega)).mono ?_
  rintro e w2 ⟨rfl, hX2⟩
  have hE2 := hE1.trans' hX2
  have hY2 := hX1.trans' hX2
  clear g0 g1 g2 hz1
  have g0 := (HB.out.ext hY2).cellv 0 (v := .int .i64 N) rfl
  have g1 := (HB.out.ext hY2).cellv 1 (v := .slice a R.length c) rfl
  have g2 := (HB.out.ext hY2).cellv 2 (v := .slice a1 y.length c1) rfl
  have hz1 := (HB.out.ext hY2).lt
  go_wp2_with fail
  refine (f27_c N a R.length c R a1 y.length c1 y _ (hl.ext hE2) rfl (by omega) (hy.ext hE2) rfl (by omega)).mono ?_
  rintro e w3 ⟨rfl, hX3⟩
  have hE3 := hE2.trans' hX3
  have hY3 := hY2.trans' hX3
  clear g0 g1 g2 hz1
  have g0 := (HB.out.ext hY3).cellv 0 (v := .int .i64 N) rfl
  have g1 := (HB.out.ext hY3).cellv 1 (v := .slice a R.length c) rfl
  have g2 := (HB.out.ext hY3).cellv 2 (v := .slice a1 y.length c1) rfl
  have hz1 := (HB.out.ext hY3).lt
  go_wp2_with fail
  refine (f28_c N a R.length c R a1 y.length c1 y _ (hl.ext hE3) rfl (by omega) (hy.ext hE3) rfl (by omega)).mono ?_
  rintro e w4 ⟨a4, c4, rfl, hI, hX4⟩
  have HI := Lib.hid hI
  have hE4 := hE3.trans' hX4
  have hY4 := hY3.trans' hX4
  clear g0 g1 g2 hz1
  have g0 := (HB.out.ext hY4).cellv 0 (v := .int .i64 N) rfl
  have g1 := (HB.out.ext hY4).cellv 1 (v := .slice a R.length c) rfl
  have g2 := (HB.out.ext hY4).cellv 2 (v := .slice a1 y.length c1) rfl
  have hz1 := (HB.out.ext hY4).lt
  have hLl := cheapF_len (N := N) (R := R) (x := y)
  have HC := Lib.hid (fun h => cheap_flow (N := N) (R := R) (x := y) h)
  have HC0 : Hid (okF N R y = false → cheapF N R y = []) := Lib.hid (fun h => by unfold cheapF; rw [h]; rfl)
  generalize hgE : excErr N R y = E at *
  have hEE : (E != E) = false := by simp
  clear hgE hI
  generalize hV : lstF N R y = V at *
  have HV := Lib.hid hV
  clear hV
  have hVV : (V != V) = false := by simp
  have C21 := Lib.hid (fun W hE hI => f21_c N a R.length c R a1 y.length c1 y a4 (cheapF N R y).length c4 (cheapF N R y) W (hl.ext hE) rfl (by omega) (hy.ext hE) rfl (by omega) hI rfl (by omega))
  rcases Bool.eq_false_or_eq_true (okF N R y) with hb | hb
  case inr =>
    have hL := HC0.out hb
    rw [hb]
    clear HC HC0 hb C21
    rw [hL] at HI hLl
    rw [hL]
    clear hL
    have q0 : ((false : Bool) != false) = false := rfl
    go_wp2_with fail
    refine (f19_c _).mono ?_
    rintro e w9 ⟨rfl, hX9⟩
    go_wp2_with fail
    go_ret
    exact ⟨rfl, hE4.trans' hX9⟩
  obtain ⟨k1, k2⟩ := HC.out hb
  have C21 := Lib.hid (C21.out _ hE4 HI.out)
  rw [k1, k2] at C21
  rw [hb]
  clear HC HC0 hb k1 k2
  generalize cheapF N R y = L at *
  have q0 : ((true : Bool) != true) = false := rfl
  go_wp2_with fail
  refine C21.out.mono ?_
  rintro e w5 ⟨rfl, hX5⟩
  have hE5 := hE4.trans' hX5
  have q1 : (V == V) = true := by simp
  clear C21
  go_wp2_with fail
  refine (f19_c _).mono ?_
  rintro e w9 ⟨rfl, hX9⟩
  go_wp2_with fail
  go_ret
  exact ⟨rfl, hE5.trans' hX9⟩
end Go.Proofs.Ytbejgbflipoboaa
