/- RoadTolls: the law's walk. -/
import Derived.Test.YtbejgbflipoboaaT19
namespace Go.Proofs.Ytbejgbflipoboaa
open Go.RowKit
attribute [local go_sem] GW.cell
theorem mul_bd {a b : Int} (ha : -99 ≤ a ∧ a ≤ 99) (hb : -1000 ≤ b ∧ b ≤ 1000) : -99000 ≤ a * b ∧ a * b ≤ 99000 := by
  have h := Int.natAbs_mul a b
  have h2 : a.natAbs * b.natAbs ≤ 99 * 1000 := Nat.mul_le_mul (by omega) (by omega)
  omega
theorem lst_bd {N : Int} {R : List Road} {x : List Int} : 0 ≤ lstF N R x ∧ lstF N R x ≤ 71280 := by
  by_cases h : okF N R x = true
  · obtain ⟨M, _, _, h3, _, _, _, h7, h8, _⟩ := okF_flow h
    rw [h8]
    have := costTo_bd h3 (f := cheapF N R x) (fun k hk => h7.2.1 k hk) (n := R.length) (Nat.le_refl _)
    have := h3.r12
    omega
  · unfold lstF; rw [if_neg h]; omega
set_option maxRecDepth 20000 in
set_option maxHeartbeats 16000000 in
theorem lawTol (w : World) (N : Int) (a : Option Addr) (n c : Nat) (R : List Road) (hl : Roads w a R) (hn : R.length = n) (a1 : Option Addr) (n1 c1 : Nat) (y : List Int) (hy : Ints w a1 y) (hn1 : y.length = n1) (node by_ : Int) :
    Calls Try.prog 14 #[.agg #[.int .i64 N, .slice a n c, .slice a1 n1 c1], .int .i64 node, .int .i64 by_] w fun e w' => e = .returned (.bool true) ∧ Ext w w' := by
  subst hn hn1
  have hE0 := ext_alloc w (.cells #[.int .i64 N, .slice a R.length c, .slice a1 y.length c1] 27)
  have HB := Lib.hid (BlkC.new w #[.int .i64 N, .slice a R.length c, .slice a1 y.length c1] 27)
  have hz1 := HB.out.lt
  have g0 := HB.out.cellv 0 (v := .int .i64 N) rfl
  have g1 := HB.out.cellv 1 (v := .slice a R.length c) rfl
  have g2 := HB.out.cellv 2 (v := .slice a1 y.length c1) rfl
  go_enter Try.func14, Try.ntmps14
  go_wp2_with fail
  generalize (w.alloc (.cells #[.int .i64 N, .slice a R.length c, .slice a1 y.length c1] 27)) = w0 at *
  refine (f17_c N a R.length c a1 y.length c1 _).mono ?_
  rintro e w1 ⟨rfl, hX1⟩
  have hE1 := hE0.trans' hX1
  rcases Bool.eq_false_or_eq_true (decide (60 < (R.length : Int)) || decide (60 < (y.length : Int))) with h1 | h1
  · rw [h1]
    go_wp2_with fail
    refine (f19_c _).mono ?_
    rintro e w9 ⟨rfl, hX9⟩
    go_wp2_with fail
    go_ret
    exact ⟨rfl, hE1.trans' hX9⟩
  rw [h1]
  rw [Bool.or_eq_false_iff] at h1
  have h2 := of_decide_eq_false h1.1
  have h3 := of_decide_eq_false h1.2
  clear h1
  clear g0 g1 g2 hz1
  have g0 := (HB.out.ext hX1).cellv 0 (v := .int .i64 N) rfl
  have g1 := (HB.out.ext hX1).cellv 1 (v := .slice a R.length c) rfl
  have g2 := (HB.out.ext hX1).cellv 2 (v := .slice a1 y.length c1) rfl
  have hz1 := (HB.out.ext hX1).lt
  go_wp2_with fail
  refine (f51_c N a R.length c R _ (hl.ext hE1) rfl (by omega)).mono ?_
  rintro e w2 ⟨gv, rfl, hO, hX2⟩
  obtain ⟨a3, c3, rfl, hR3⟩ := hO.roads
  have hA2 := ext_alloc w2 (.cells #[.int .i64 N, .slice a3 R.length c3] 24)
  have HP := Lib.hid (BlkC.new w2 #[.int .i64 N, .slice a3 R.length c3] 24)
  have hE2 := (hE1.trans' hX2).trans' hA2
  have hY2 := (hX1.trans' hX2).trans' hA2
  have HR3 := Lib.hid (hR3.ext hA2)
  clear hR3 hO
  clear g0 g1 g2 hz1
  have g0 := (HB.out.ext hY2).cellv 0 (v := .int .i64 N) rfl
  have g1 := (HB.out.ext hY2).cellv 1 (v := .slice a R.length c) rfl
  have g2 := (HB.out.ext hY2).cellv 2 (v := .slice a1 y.length c1) rfl
  have hz1 := (HB.out.ext hY2).lt
  have p0 := HP.out.cellv 0 (v := .int .i64 N) rfl
  have p1 := HP.out.cellv 1 (v := .slice a3 R.length c3) rfl
  have hp := HP.out.lt
  go_wp2_with fail
  generalize hp3 : w2.heap.size = p3 at *
  clear hp3
  generalize w2.alloc (.cells #[.int .i64 N, .slice a3 R.length c3] 24) = w22 at *
  refine (f52_c N a3 R.length c3 R node by_ _ HR3.out rfl (by omega)).mono ?_
  rintro e w3 ⟨a4, c4, rfl, hR4, hX3⟩
  have hll : (tolL N R node by_).length ≤ 60 := by
    unfold tolL
    split
    · simp; omega
    · simp
  have HG : Hid (tolErr N R node by_ = 0 → tolN N R node by_ = N ∧ tolL N R node by_ = R.map (tolD node by_)) := Lib.hid (fun h => by unfold tolN tolL; rw [if_pos h, if_pos h]; exact ⟨rfl, rfl⟩)
  have HLs := Lib.hid (fun h => tol_least (N := N) (R := R) (x := y) (node := node) (by_ := by_) h)
  have Hnd : Hid (tolErr N R node by_ = 0 → 0 ≤ node) := Lib.hid (fun h => (tolErr_ok h).2.1.1)
  generalize hTN : tolN N R node by_ = TN at *
  have HTN := Lib.hid hTN
  clear hTN
  generalize hTL : tolL N R node by_ = TL at *
  have HTL := Lib.hid hTL
  clear hTL
  have hA3 := ext_alloc w3 (.cells #[.int .i64 TN, .slice a4 TL.length c4] 24)
  have HQ := Lib.hid (BlkC.new w3 #[.int .i64 TN, .slice a4 TL.length c4] 24)
  have hE3 := (hE2.trans' hX3).trans' hA3
  have hY3 := (hY2.trans' hX3).trans' hA3
  have hZ3 := hX3.trans' hA3
  have HR4 := Lib.hid (hR4.ext hA3)
  have HR33 := Lib.hid (HR3.out.ext hZ3)
  have HP3 := Lib.hid (HP.out.ext hZ3)
  clear hR4 p0 p1 hp
  clear g0 g1 g2 hz1
  have g0 := (HB.out.ext hY3).cellv 0 (v := .int .i64 N) rfl
  have g1 := (HB.out.ext hY3).cellv 1 (v := .slice a R.length c) rfl
  have g2 := (HB.out.ext hY3).cellv 2 (v := .slice a1 y.length c1) rfl
  have hz1 := (HB.out.ext hY3).lt
  go_wp2_with fail
  generalize hp4 : w3.heap.size = p4 at *
  clear hp4
  generalize w3.alloc (.cells #[.int .i64 TN, .slice a4 TL.length c4] 24) = w33 at *
  refine (f53_c N a R.length c R node by_ _ (hl.ext hE3) rfl (by omega)).mono ?_
  rintro e w4 ⟨a5, c5, he5, hR5, hX4⟩
  rw [HTN.out, HTL.out] at he5
  rw [HTL.out] at hR5
  subst he5
  have hA4 := ext_alloc w4 (.cells #[.int .i64 TN, .slice a5 TL.length c5] 24)
  have HU := Lib.hid (BlkC.new w4 #[.int .i64 TN, .slice a5 TL.length c5] 24)
  have hE4 := (hE3.trans' hX4).trans' hA4
  have hY4 := (hY3.trans' hX4).trans' hA4
  have hZ4 := hX4.trans' hA4
  have HR5 := Lib.hid (hR5.ext hA4)
  have HR44 := Lib.hid (HR4.out.ext hZ4)
  have HR34 := Lib.hid (HR33.out.ext hZ4)
  have HP4 := Lib.hid (HP3.out.ext hZ4)
  have HQ4 := Lib.hid (HQ.out.ext hZ4)
  clear hR5
  clear g0 g1 g2 hz1
  have g0 := (HB.out.ext hY4).cellv 0 (v := .int .i64 N) rfl
  have g1 := (HB.out.ext hY4).cellv 1 (v := .slice a R.length c) rfl
  have g2 := (HB.out.ext hY4).cellv 2 (v := .slice a1 y.length c1) rfl
  have hz1 := (HB.out.ext hY4).lt
  have q0 := HQ4.out.cellv 0 (v := .int .i64 TN) rfl
  have q1 := HQ4.out.cellv 1 (v := .slice a4 TL.length c4) rfl
  have hq := HQ4.out.lt
  have u0 := HU.out.cellv 0 (v := .int .i64 TN) rfl
  have u1 := HU.out.cellv 1 (v := .slice a5 TL.length c5) rfl
  have hu := HU.out.lt
  go_wp2_with fail
  generalize hp5 : w4.heap.size = p5 at *
  clear hp5
  generalize w4.alloc (.cells #[.int .i64 TN, .slice a5 TL.length c5] 24) = w44 at *
  refine (f37_c TN TN a4 a5 TL.length TL.length c4 c5 TL TL _ HR44.out HR5.out rfl rfl (by omega) (by omega)).mono ?_
  rintro e w5 ⟨rfl, hX5⟩
  rw [show sameNet TN TL TN TL = true by simp [sameNet]]
  have hE5 := hE4.trans' hX5
  have hY5 := hY4.trans' hX5
  have HP5 := Lib.hid (HP4.out.ext hX5)
  have HQ5 := Lib.hid (HQ4.out.ext hX5)
  have HR35 := Lib.hid (HR34.out.ext hX5)
  have HR45 := Lib.hid (HR44.out.ext hX5)
  have hEE : (tolErr N R node by_ != tolErr N R node by_) = false := by simp
  clear q0 q1 hq u0 u1 hu
  clear g0 g1 g2 hz1
  have g0 := (HB.out.ext hY5).cellv 0 (v := .int .i64 N) rfl
  have g1 := (HB.out.ext hY5).cellv 1 (v := .slice a R.length c) rfl
  have g2 := (HB.out.ext hY5).cellv 2 (v := .slice a1 y.length c1) rfl
  have hz1 := (HB.out.ext hY5).lt
  have p0 := HP5.out.cellv 0 (v := .int .i64 N) rfl
  have p1 := HP5.out.cellv 1 (v := .slice a3 R.length c3) rfl
  have hp := HP5.out.lt
  generalize hE0' : tolErr N R node by_ = TE at *
  clear hE0'
  go_wp2_with fail
  refine (f37_c N N a3 a R.length R.length c3 c R R _ HR35.out (hl.ext hE5) rfl rfl (by omega) (by omega)).mono ?_
  rintro e w6 ⟨rfl, hX6⟩
  rw [show sameNet N R N R = true by simp [sameNet]]
  have hE6 := hE5.trans' hX6
  have hY6 := hY5.trans' hX6
  have HQ6 := Lib.hid (HQ5.out.ext hX6)
  have HR46 := Lib.hid (HR45.out.ext hX6)
  clear p0 p1 hp
  by_cases h0 : TE = 0
  case neg =>
    have hb : (TE != 0) = true := by simp [h0]
    clear h0 HG HLs Hnd
    go_wp2_with fail
    refine (f19_c _).mono ?_
    rintro e w9 ⟨rfl, hX9⟩
    go_wp2_with fail
    go_ret
    exact ⟨rfl, hE6.trans' hX9⟩
  subst h0
  obtain ⟨e1, e2⟩ := HG.out rfl
  obtain ⟨k1, k2, k3, k4⟩ := HLs.out rfl
  have hnd := Hnd.out rfl
  have e1' := e1.symm
  subst e1'
  rw [← e2] at k1 k2 k3 k4
  have K1 := Lib.hid k1
  have K2 := Lib.hid k2
  have K3 := Lib.hid k3
  have K4 := Lib.hid k4
  clear HG HLs Hnd e2 k1 k2 k3 k4 hEE HTN HTL
  clear g0 g1 g2 hz1
  have g0 := (HB.out.ext hY6).cellv 0 (v := .int .i64 N) rfl
  have g1 := (HB.out.ext hY6).cellv 1 (v := .slice a R.length c) rfl
  have g2 := (HB.out.ext hY6).cellv 2 (v := .slice a1 y.length c1) rfl
  have hz1 := (HB.out.ext hY6).lt
  have hlb := lst_bd (N := N) (R := R) (x := y)
  go_wp2_with fail
  refine (f26_c N a R.length c R a1 y.length c1 y _ (hl.ext hE6) rfl (by omega) (hy.ext hE6) rfl (by omega)).mono ?_
  rintro e w7 ⟨rfl, hX7⟩
  have hE7 := hE6.trans' hX7
  have hY7 := hY6.trans' hX7
  have HQ7 := Lib.hid (HQ6.out.ext hX7)
  have HR47 := Lib.hid (HR46.out.ext hX7)
  clear g0 g1 g2 hz1
  have g0 := (HB.out.ext hY7).cellv 0 (v := .int .i64 N) rfl
  have g1 := (HB.out.ext hY7).cellv 1 (v := .slice a R.length c) rfl
  have g2 := (HB.out.ext hY7).cellv 2 (v := .slice a1 y.length c1) rfl
  have hz1 := (HB.out.ext hY7).lt
  have q0 := HQ7.out.cellv 0 (v := .int .i64 N) rfl
  have q1 := HQ7.out.cellv 1 (v := .slice a4 TL.length c4) rfl
  have hq := HQ7.out.lt
  have HF := Lib.hid (f26_c N a4 TL.length c4 TL a1 y.length c1 y _ HR47.out rfl (by omega) (hy.ext hE7) rfl (by omega))
  go_wp2_with fail
  refine HF.out.mono ?_
  clear HF
  rintro e w8 ⟨rfl, hX8⟩
  have hE8 := hE7.trans' hX8
  have hY8 := hY7.trans' hX8
  clear q0 q1 hq
  clear g0 g1 g2 hz1
  have g0 := (HB.out.ext hY8).cellv 0 (v := .int .i64 N) rfl
  have g1 := (HB.out.ext hY8).cellv 1 (v := .slice a R.length c) rfl
  have g2 := (HB.out.ext hY8).cellv 2 (v := .slice a1 y.length c1) rfl
  have hz1 := (HB.out.ext hY8).lt
  rw [K1.out, K2.out]
  generalize hgE : excErr N R y = E at *
  have hEE : (E != E) = false := by simp
  clear hgE
  generalize hV' : lstF N TL y = V' at *
  clear hV'
  rcases Bool.eq_false_or_eq_true (okF N R y) with hb | hb
  case inr =>
    obtain ⟨z1, z2⟩ := K4.out hb
    rw [hb, z1, z2]
    clear K1 K2 K3 K4 z1 z2 hb hlb
    have q0 : ((false : Bool) != false) = false := rfl
    have q1 : ((0 : Int) == 0) = true := rfl
    go_wp2_with fail
    refine (f19_c _).mono ?_
    rintro e w9 ⟨rfl, hX9⟩
    go_wp2_with fail
    go_ret
    exact ⟨rfl, hE8.trans' hX9⟩
  obtain ⟨m1, m2, m3⟩ := K3.out hb
  have Hzb : Hid (∀ d, -1000 ≤ gi y d ∧ gi y d ≤ 1000) := Lib.hid (fun d => by
    obtain ⟨M, e, _, _, he, _⟩ := okF_flow hb
    exact exc_bd he d)
  rw [hb]
  clear K1 K2 K3 K4 hb
  have q0 : ((true : Bool) != true) = false := rfl
  obtain ⟨d, rfl⟩ := Int.eq_ofNat_of_zero_le hnd
  rw [Int.toNat_natCast] at m1 m2 m3
  obtain ⟨b1, o1, rfl, hb1, hc1⟩ := hy.ext hE8 d m3
  rw [gi_def] at hc1
  have hzb := Hzb.out d
  clear Hzb
  generalize gi y d = z at *
  generalize lstF N R y = V at *
  by_cases hz : z = 0
  case pos =>
    have hd : (z == 0) = true := by simp [hz]
    have q1 : (V == V') = true := by rw [beq_iff_eq, m1, hz]; omega
    clear m1 m2 hz
    go_wp2_with fail
    refine (f19_c _).mono ?_
    rintro e w9 ⟨rfl, hX9⟩
    go_wp2_with fail
    go_ret
    exact ⟨rfl, hE8.trans' hX9⟩
  have hd : (z == 0) = false := by simp [hz]
  obtain ⟨c5', c6'⟩ := m2 hz
  have hmul := mul_bd (by omega : -99 ≤ by_ ∧ by_ ≤ 99) hzb
  have e0 : IntKind.i64.wrap (by_ * z) = by_ * z := IntWalk.i64_in _ (by omega)
  have e1 : IntKind.i64.wrap (V - by_ * z) = V - by_ * z := IntWalk.i64_in _ (by omega)
  have q1 : (V' == V - by_ * z) = true := by rw [beq_iff_eq, m1]
  have q2 : decide ((-99 : Int) ≤ by_) = true := decide_eq_true c5'
  have q3 : decide (by_ ≤ (99 : Int)) = true := decide_eq_true c6'
  clear m1 m2 hz
  go_wp2_with fail
  refine (f19_c _).mono ?_
  rintro e w9 ⟨rfl, hX9⟩
  go_wp2_with fail
  go_ret
  exact ⟨rfl, hE8.trans' hX9⟩

end Go.Proofs.Ytbejgbflipoboaa
