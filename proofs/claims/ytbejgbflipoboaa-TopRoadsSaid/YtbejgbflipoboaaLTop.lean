/- TopRoads: the law's walk. -/
import Derived.Deep.LoopGhost
import Derived.Test.YtbejgbflipoboaaLWid
import Derived.Test.YtbejgbflipoboaaT34
import Derived.Test.YtbejgbflipoboaaT32
import Derived.Test.YtbejgbflipoboaaT30
import Derived.Test.YtbejgbflipoboaaT27
import Derived.Test.YtbejgbflipoboaaT13
namespace Go.Proofs.Ytbejgbflipoboaa
open Go.RowKit
attribute [local go_sem] GW.cell
theorem roads_one (w : World) (T : TypeId) (B : Nat) (hB : w.heap.size = B) : Roads (w.alloc (.cells #[.int .i64 0, .int .i64 1, .int .i64 7, .int .i64 0] T)) (some ⟨B, 0, none⟩) [⟨0, 1, 7, 0⟩] := by
  subst hB
  intro j hj
  refine ⟨_, _, rfl, by simp, ?_⟩
  match j, hj with
  | 0, _ => simp
theorem dist_first : distV 2 [⟨0, 1, 7, 0⟩] 0 = [0, 7] ∧ distErr 2 [⟨0, 1, 7, 0⟩] 0 = 0 := by decide
theorem same_first : sameI [0, 7] [0, 7] = true := by decide
theorem top_cases (N : Int) (R : List Road) (y : List Int) : (excErr N R y ≠ 0 ∧ okF N R y = false ∧ barF N R y = false) ∨ (excErr N R y = 0 ∧ okF N R y = false ∧ barF N R y = true) ∨ (excErr N R y = 0 ∧ okF N R y = true ∧ barF N R y = false) := by
  by_cases he : excErr N R y = 0
  · cases hk : okF N R y with
    | true => exact .inr (.inr ⟨he, rfl, by unfold barF; rw [hk]; simp⟩)
    | false => exact .inr (.inl ⟨he, rfl, by unfold barF; rw [hk, he]; simp⟩)
  · refine .inl ⟨he, ?_, ?_⟩
    · unfold okF; rw [decide_eq_false he]; rfl
    · unfold barF; rw [decide_eq_false he]; rfl
theorem top_ok {M : Nat} {R : List Road} {y : List Int} (h : okF (M : Int) R y = true) : flowErr (M : Int) R y (cheapF (M : Int) R y) = 0 ∧ flowV (M : Int) R y (cheapF (M : Int) R y) = lstF (M : Int) R y ∧ prcErr (M : Int) R y (cheapF (M : Int) R y) (prcV (M : Int) R y) = 0 ∧
    FlowR M R y (cheapF (M : Int) R y) ∧ costTo R (cheapF (M : Int) R y) R.length = lstF (M : Int) R y ∧ ∀ f : List Int, FlowR M R y f → lstF (M : Int) R y ≤ costTo R f R.length := by
  obtain ⟨M', e, h2, h3, h4, h5, h6, h7, h8, h9⟩ := okF_flow h
  obtain rfl : M = M' := by omega
  have hf := (flowErr_iff h4).2 h7
  have e : prcV (M : Int) R y = prcL M R (cheapF (M : Int) R y) := by unfold prcV; rw [if_pos h, Int.toNat_natCast]
  refine ⟨hf, by rw [flowV_yes hf, h8], by rw [e]; exact prices_prove h4 h7 (by omega) h7 (by omega), h7, h8.symm, fun f hf' => lstF_le h4 hf'⟩
theorem top_round {M : Nat} {R : List Road} {y x l : List Int} (h : flowErr (M : Int) R y x = 0) (hr : RoundOf M R x l) :
    (l = [] ∧ flowV (M : Int) R y x = lstF (M : Int) R y ∧ prcErr (M : Int) R y x (prcV (M : Int) R y) = 0) ∨
    (0 < l.length ∧ l.length ≤ 6 ∧ lstF (M : Int) R y < flowV (M : Int) R y x ∧ rndErr (M : Int) R y x l = 0 ∧ rndV (M : Int) R y x l < 0 ∧ flowErr (M : Int) R y (turnV (M : Int) R y x l) = 0 ∧ flowV (M : Int) R y (turnV (M : Int) R y x l) = flowV (M : Int) R y x + rndV (M : Int) R y x l ∧ (turnV (M : Int) R y x l).length ≤ 12) := by
  have he := flow_exc0 h
  have hf := (flowErr_iff he).1 h
  have hok := netErr_ok (excErr_ok he).1
  have hM := hok.n1
  have hv : flowV (M : Int) R y x = costTo R x R.length := flowV_yes h
  rcases hr with ⟨rfl, hl⟩ | ⟨_, v, l0, go, rfl⟩
  · refine .inl ⟨rfl, ?_, ?_⟩
    · rw [hv, rnd_none he hf hl]
    · have hk : okF (M : Int) R y = true := (okF_iff he).2 ⟨x, hf⟩
      obtain ⟨M', e, h2, h3, h4, h5, h6, h7, h8, h9⟩ := okF_flow hk
      obtain rfl : M = M' := by omega
      have e : prcV (M : Int) R y = prcL M R (cheapF (M : Int) R y) := by unfold prcV; rw [if_pos hk, Int.toNat_natCast]
      rw [e]
      exact prices_prove h4 h7 (by omega) hf (by rw [rnd_none he hf hl]; omega)
  · have hlen := go.len
    have hin : ∀ s ∈ l0.reverse, StepIn R.length s := fun s hs => go.in_ s (List.mem_reverse.1 hs)
    have hre : rndErr (M : Int) R y x l0.reverse = 0 := rndErr_mk h hin (by rw [List.length_reverse]; omega) (by rw [List.length_reverse]; omega) go.rnd
    obtain ⟨r1, r2, r3⟩ := rounds hre
    refine .inr ⟨by rw [List.length_reverse]; omega, by rw [List.length_reverse]; omega, ?_, hre, ?_, r2, r3, ?_⟩
    · rw [hv]; exact rnd_some he hf hin go.rnd go.neg
    · rw [rndV_yes hre]; exact go.neg
    · unfold turnV
      rw [if_pos hre, turnsTo_length, hf.1]
      exact hok.r12
theorem flowV_bd' {N : Int} {R : List Road} {y x : List Int} (h : flowErr N R y x = 0) : 0 ≤ flowV N R y x ∧ flowV N R y x ≤ 71280 ∧ x.length ≤ 12 := by
  have h1 := flowErr_ok h
  have hok := netErr_ok (excErr_ok h1.1).1
  have h2 := costTo_bd hok (flowB_ok h1.2.1).2 (Nat.le_refl R.length)
  have h3 := hok.r12
  have h4 := (flowB_ok h1.2.1).1
  rw [flowV_yes h]; omega
set_option maxRecDepth 20000 in
set_option maxHeartbeats 16000000 in
theorem lawTop (w : World) (N : Int) (a : Option Addr) (n c : Nat) (R : List Road) (hl : Roads w a R) (hn : R.length = n) (a1 : Option Addr) (n1 c1 : Nat) (y : List Int) (hy : Ints w a1 y) (hn1 : y.length = n1) (a2 : Option Addr) (n2 c2 : Nat) (x : List Int) (hx : Ints w a2 x) (hn2 : x.length = n2) :
    Calls Try.prog 9 #[.agg #[.int .i64 N, .slice a n c, .slice a1 n1 c1], .slice a2 n2 c2] w fun e w' => e = .returned (.bool true) ∧ Ext w w' := by
  subst hn hn1 hn2
  obtain ⟨i0, hi0⟩ := info_parts info3
  have Hi := Lib.hid hi0
  clear hi0
  have hE0 := ext_alloc w (.cells #[.int .i64 N, .slice a R.length c, .slice a1 y.length c1] 27)
  have HB := Lib.hid (BlkC.new w #[.int .i64 N, .slice a R.length c, .slice a1 y.length c1] 27)
  have hz1 := HB.out.lt
  have g0 := HB.out.cellv 0 (v := .int .i64 N) rfl
  have g1 := HB.out.cellv 1 (v := .slice a R.length c) rfl
  have g2 := HB.out.cellv 2 (v := .slice a1 y.length c1) rfl
  go_enter Try.func9, Try.ntmps9
  go_upto_region 1 with fail
  generalize (w.alloc (.cells #[.int .i64 N, .slice a R.length c, .slice a1 y.length c1] 27)) = w0 at *
  have hR1 := roads_one w0 55 w0.heap.size rfl
  have C40 := Lib.hid (f40_c 2 (some ⟨w0.heap.size, 0, none⟩) 1 1 [⟨0, 1, 7, 0⟩] 0 _ hR1 rfl (by omega))
  rw [dist_first.1, dist_first.2] at C40
  have hX0 := ext_alloc w0 (.cells #[.int .i64 0, .int .i64 1, .int .i64 7, .int .i64 0] 55)
  clear hR1
  go_wp2_with fail
  refine C40.out.mono ?_
  clear C40
  rintro e w1 ⟨a3, c3, rfl, hI3, hX1⟩
  have hY1 := hX0.trans' hX1
  have hJ := ints_new2 w1 0 7 3 w1.heap.size rfl
  have C34 := Lib.hid (f34_c a3 (some ⟨w1.heap.size, 0, none⟩) 2 c3 2 2 [0, 7] [0, 7] _ (hI3.ext (ext_alloc w1 (.cells #[.int .i64 0, .int .i64 7] 3))) hJ rfl rfl (by omega) (by omega))
  rw [same_first] at C34
  have hX1b := ext_alloc w1 (.cells #[.int .i64 0, .int .i64 7] 3)
  clear hI3 hJ hX0 hX1
  rw [show ([0, 7] : List Int).length = 2 from rfl]
  go_wp2_with fail
  refine C34.out.mono ?_
  clear C34
  rintro e w2 ⟨rfl, hX2⟩
  have hY2 := (hY1.trans' hX1b).trans' hX2
  have hE2 := hE0.trans' hY2
  clear hX1b hX2 hY1
  clear g0 g1 g2 hz1
  have g0 := (HB.out.ext hY2).cellv 0 (v := .int .i64 N) rfl
  have g1 := (HB.out.ext hY2).cellv 1 (v := .slice a R.length c) rfl
  have g2 := (HB.out.ext hY2).cellv 2 (v := .slice a1 y.length c1) rfl
  have hz1 := (HB.out.ext hY2).lt
  go_wp2_with fail
  refine (f31_c N a R.length c _).mono ?_
  rintro e w3 ⟨rfl, hX3⟩
  have hY3 := hY2.trans' hX3
  have hE3 := hE2.trans' hX3
  clear g0 g1 g2 hz1
  have g0 := (HB.out.ext hY3).cellv 0 (v := .int .i64 N) rfl
  have g1 := (HB.out.ext hY3).cellv 1 (v := .slice a R.length c) rfl
  have g2 := (HB.out.ext hY3).cellv 2 (v := .slice a1 y.length c1) rfl
  have hz1 := (HB.out.ext hY3).lt
  by_cases h2 : 60 < R.length
  · rw [decide_eq_true (show (60 : Int) < (R.length : Int) by omega)]
    go_wp2_with fail
    go_ret
    exact ⟨rfl, hE3⟩
  rw [decide_eq_false (show ¬ (60 : Int) < (R.length : Int) by omega)]
  by_cases h3 : 60 < y.length
  · have hd := decide_eq_true (show (60 : Int) < (y.length : Int) by omega)
    go_wp2_with fail
    go_ret
    exact ⟨rfl, hE3⟩
  have hd3 := decide_eq_false (show ¬ (60 : Int) < (y.length : Int) by omega)
  by_cases h4 : 60 < x.length
  · have hd := decide_eq_true (show (60 : Int) < (x.length : Int) by omega)
    go_wp2_with fail
    go_ret
    exact ⟨rfl, hE3⟩
  have hd4 := decide_eq_false (show ¬ (60 : Int) < (x.length : Int) by omega)
  go_wp2_with fail
  clear hd3 hd4
  refine (f29_c N a R.length c R a1 y.length c1 y _ (hl.ext hE3) rfl (by omega) (hy.ext hE3) rfl (by omega)).mono ?_
  rintro e w4 ⟨rfl, hX4⟩
  have hE4 := hE3.trans' hX4
  have hY4 := hY3.trans' hX4
  clear g0 g1 g2 hz1
  have g0 := (HB.out.ext hY4).cellv 0 (v := .int .i64 N) rfl
  have g1 := (HB.out.ext hY4).cellv 1 (v := .slice a R.length c) rfl
  have g2 := (HB.out.ext hY4).cellv 2 (v := .slice a1 y.length c1) rfl
  have hz1 := (HB.out.ext hY4).lt
  go_wp2_with fail
  refine (f41_c N a R.length c R a1 y.length c1 y _ (hl.ext hE4) rfl (by omega) (hy.ext hE4) rfl (by omega)).mono ?_
  rintro e w5 ⟨aB, cB, rfl, hIB, hX5⟩
  have hE5 := hE4.trans' hX5
  have hY5 := hY4.trans' hX5
  clear g0 g1 g2 hz1
  have g0 := (HB.out.ext hY5).cellv 0 (v := .int .i64 N) rfl
  have g1 := (HB.out.ext hY5).cellv 1 (v := .slice a R.length c) rfl
  have g2 := (HB.out.ext hY5).cellv 2 (v := .slice a1 y.length c1) rfl
  have hz1 := (HB.out.ext hY5).lt
  go_wp2_with fail
  refine (f26_c N a R.length c R a1 y.length c1 y _ (hl.ext hE5) rfl (by omega) (hy.ext hE5) rfl (by omega)).mono ?_
  rintro e w6 ⟨rfl, hX6⟩
  have hE6 := hE5.trans' hX6
  have hY6 := hY5.trans' hX6
  clear g0 g1 g2 hz1
  have g0 := (HB.out.ext hY6).cellv 0 (v := .int .i64 N) rfl
  have g1 := (HB.out.ext hY6).cellv 1 (v := .slice a R.length c) rfl
  have g2 := (HB.out.ext hY6).cellv 2 (v := .slice a1 y.length c1) rfl
  have hz1 := (HB.out.ext hY6).lt
  go_wp2_with fail
  refine (f28_c N a R.length c R a1 y.length c1 y _ (hl.ext hE6) rfl (by omega) (hy.ext hE6) rfl (by omega)).mono ?_
  rintro e w7 ⟨aO, cO, rfl, hJO, hX7⟩
  have hE7 := hE6.trans' hX7
  have hY7 := hY6.trans' hX7
  clear g0 g1 g2 hz1
  have g0 := (HB.out.ext hY7).cellv 0 (v := .int .i64 N) rfl
  have g1 := (HB.out.ext hY7).cellv 1 (v := .slice a R.length c) rfl
  have g2 := (HB.out.ext hY7).cellv 2 (v := .slice a1 y.length c1) rfl
  have hz1 := (HB.out.ext hY7).lt
  go_wp2_with fail
  refine (f42_c N a R.length c R a1 y.length c1 y _ (hl.ext hE7) rfl (by omega) (hy.ext hE7) rfl (by omega)).mono ?_
  rintro e w8 ⟨aP, cP, rfl, hIP, hX8⟩
  have hE8 := hE7.trans' hX8
  have hY8 := hY7.trans' hX8
  have HIB := Lib.hid (hIB.ext ((hX6.trans' hX7).trans' hX8))
  have HJO := Lib.hid (hJO.ext hX8)
  have HIP := Lib.hid hIP
  clear hIB hJO hIP
  clear g0 g1 g2 hz1
  have g0 := (HB.out.ext hY8).cellv 0 (v := .int .i64 N) rfl
  have g1 := (HB.out.ext hY8).cellv 1 (v := .slice a R.length c) rfl
  have g2 := (HB.out.ext hY8).cellv 2 (v := .slice a1 y.length c1) rfl
  have hz1 := (HB.out.ext hY8).lt
  have hEE : (excErr N R y != excErr N R y) = false := by simp
  have hbl := barL_length (N := N) (R := R) (x := y)
  have hpl := prcV_len (N := N) (R := R) (x := y)
  have hcl := cheapF_len (N := N) (R := R) (x := y)
  rcases top_cases N R y with ⟨k1, k2, k3⟩ | ⟨k1, k2, k3⟩ | ⟨k1, k2, k3⟩
  · have hb : (excErr N R y != 0) = true := by simp [k1]
    have hb2 : (excErr N R y == 0) = false := by simp [k1]
    rw [k2, k3]
    clear k1 k2 k3
    generalize excErr N R y = E at *
    generalize lstF N R y = L at *
    generalize barL N R y = B at *
    generalize prcV N R y = P at *
    generalize cheapF N R y = F at *
    have q0 : ((false : Bool) != false) = false := rfl
    go_wp2_with fail
    go_ret
    exact ⟨rfl, hE8⟩
  · have C43 := Lib.hid (f43_c N a R.length c R a1 y.length c1 y aB (barL N R y).length cB (barL N R y) w8 (hl.ext hE8) rfl (by omega) (hy.ext hE8) rfl (by omega) HIB.out rfl (by omega))
    rw [bar_ok k3] at C43
    rw [k2, k3, k1]
    clear k1 k2 k3
    generalize lstF N R y = L at *
    generalize barL N R y = B at *
    generalize prcV N R y = P at *
    generalize cheapF N R y = F at *
    have q0 : ((false : Bool) != false) = false := rfl
    go_wp2_with fail
    refine C43.out.mono ?_
    rintro e w9 ⟨rfl, hX9⟩
    go_wp2_with fail
    go_ret
    exact ⟨rfl, hE8.trans' hX9⟩
  obtain ⟨M, rfl⟩ : ∃ M : Nat, N = M := by
    obtain ⟨M, h, _⟩ := okF_flow k2
    exact ⟨M, h⟩
  obtain ⟨o1, o2, o3, o4, o5, o6⟩ := top_ok k2
  have C20 := Lib.hid (fun W (hW : Ext w8 W) => f20_c (M : Int) a R.length c R a1 y.length c1 y aO (cheapF (M : Int) R y).length cO (cheapF (M : Int) R y) W (hl.ext (hE8.trans' hW)) rfl (by omega) (hy.ext (hE8.trans' hW)) rfl (by omega) (HJO.out.ext hW) rfl (by omega))
  have C38 := Lib.hid (fun W (hW : Ext w8 W) => f38_c (M : Int) a R.length c R a1 y.length c1 y aO (cheapF (M : Int) R y).length cO (cheapF (M : Int) R y) aP (prcV (M : Int) R y).length cP (prcV (M : Int) R y) W (hl.ext (hE8.trans' hW)) rfl (by omega) (hy.ext (hE8.trans' hW)) rfl (by omega) (HJO.out.ext hW) rfl (by omega) (HIP.out.ext hW) rfl (by omega))
  have C38b := Lib.hid (fun a4 c4 (l : List Int) W (hW : Ext w8 W) (hq : Ints W a4 l) (hql : l.length ≤ 1000000) => f38_c (M : Int) a R.length c R a1 y.length c1 y a4 l.length c4 l aP (prcV (M : Int) R y).length cP (prcV (M : Int) R y) W (hl.ext (hE8.trans' hW)) rfl (by omega) (hy.ext (hE8.trans' hW)) rfl (by omega) hq rfl hql (HIP.out.ext hW) rfl (by omega))
  have C44 := Lib.hid (fun W (hW : Ext w W) => Tr.f44_c M a R.length c R a1 y.length c1 y (lstF (M : Int) R y) W (hl.ext hW) rfl (hy.ext hW) rfl k1 o4 o5 o6)
  have HTR := Lib.hid (fun (L l : List Int) h1 h2 => top_round (M := M) (R := R) (y := y) (x := L) (l := l) h1 h2)
  rw [o1, o2] at C20
  rw [o3] at C38
  rw [k1, k2, k3]
  clear o1 o2 o3 o4 o5 o6 k1 k2 k3 hEE HJO HIB
  generalize lstF (M : Int) R y = least at *
  generalize barL (M : Int) R y = B at *
  generalize prcV (M : Int) R y = P at *
  generalize cheapF (M : Int) R y = F at *
  have q0 : ((true : Bool) != true) = false := rfl
  go_wp2_with fail
  refine (C20.out _ (Ext.rfl' _)).mono ?_
  rintro e w9 ⟨rfl, hX9⟩
  have hE9 := hE8.trans' hX9
  have hY9 := hY8.trans' hX9
  have C38' := Lib.hid (C38.out w9 hX9)
  clear C20 C38
  clear g0 g1 g2 hz1
  have g0 := (HB.out.ext hY9).cellv 0 (v := .int .i64 (M : Int)) rfl
  have g1 := (HB.out.ext hY9).cellv 1 (v := .slice a R.length c) rfl
  have g2 := (HB.out.ext hY9).cellv 2 (v := .slice a1 y.length c1) rfl
  have hz1 := (HB.out.ext hY9).lt
  have q1 : ((0 : Int) != 0) = false := rfl
  have q2 : (least != least) = false := by simp
  go_wp2_with fail
  refine C38'.out.mono ?_
  rintro e w10 ⟨rfl, hX10⟩
  have hE10 := hE9.trans' hX10
  have hY10 := hY9.trans' hX10
  have hZ10 := hX9.trans' hX10
  clear C38' q1 q2
  clear g0 g1 g2 hz1
  have g0 := (HB.out.ext hY10).cellv 0 (v := .int .i64 (M : Int)) rfl
  have g1 := (HB.out.ext hY10).cellv 1 (v := .slice a R.length c) rfl
  have g2 := (HB.out.ext hY10).cellv 2 (v := .slice a1 y.length c1) rfl
  have hz1 := (HB.out.ext hY10).lt
  go_wp2_with fail
  refine (C44.out _ hE10).mono ?_
  rintro e w11 ⟨rfl, hX11⟩
  have hE11 := hE10.trans' hX11
  have hY11 := hY10.trans' hX11
  have hZ11 := hZ10.trans' hX11
  clear C44
  clear g0 g1 g2 hz1
  have g0 := (HB.out.ext hY11).cellv 0 (v := .int .i64 (M : Int)) rfl
  have g1 := (HB.out.ext hY11).cellv 1 (v := .slice a R.length c) rfl
  have g2 := (HB.out.ext hY11).cellv 2 (v := .slice a1 y.length c1) rfl
  have hz1 := (HB.out.ext hY11).lt
  have Hr := Lib.hid (reads_ints ((hx.ext hE11).ext (ext_alloc w11 (.cells #[] 3))))
  have Hrow := Lib.hid (row_empty w11 3 1)
  go_wp2_with (at_builtin; refine wpList_append_any _ rfl (.tmp 198) (.tmp 199) 25 rfl w11.heap.size 3 i0 (.int .i64 0) 1 8 Try.underlying25 Hi.out.1 Hi.out.2.1 Hi.out.2.2.1 Hi.out.2.2.2 rfl (by omega) (.slice (some ⟨w11.heap.size, 0, none⟩) 0 0) 0 [] rfl Hrow.out _ a2 x.length c2 (x.map (.int .i64)) rfl Hr.out ints_one (by unfold maxLen; omega) (by omega) (by simp) ?_; intro v1 w12 hown hgrow hat; have hX12 := ext_grow (ext_alloc _ _) Hrow.out (Nat.le_refl _) hgrow; rw [Nat.zero_add, List.nil_append] at hown; obtain ⟨a4, c4, rfl, hI4⟩ := ints_of_row hown; clear hown hgrow hat; have HI4 := Lib.hid hI4; clear hI4 Hr Hrow; have hE12 := hE11.trans' hX12; have hY12 := hY11.trans' hX12; have hZ12 := hZ11.trans' hX12; clear g0 g1 g2 hz1; have g0 := (HB.out.ext hY12).cellv 0 (v := .int .i64 (M : Int)) rfl; have g1 := (HB.out.ext hY12).cellv 1 (v := .slice a R.length c) rfl; have g2 := (HB.out.ext hY12).cellv 2 (v := .slice a1 y.length c1) rfl; have hz1 := (HB.out.ext hY12).lt)
  refine (f20_c (M : Int) a R.length c R a1 y.length c1 y a4 x.length c4 x _ (hl.ext hE12) rfl (by omega) (hy.ext hE12) rfl (by omega) HI4.out rfl (by omega)).mono ?_
  rintro e w13 ⟨rfl, hX13⟩
  have hE13 := hE12.trans' hX13
  have hY13 := hY12.trans' hX13
  have hZ13 := hZ12.trans' hX13
  have HI5 := Lib.hid (HI4.out.ext hX13)
  clear HI4
  clear g0 g1 g2 hz1
  have g0 := (HB.out.ext hY13).cellv 0 (v := .int .i64 (M : Int)) rfl
  have g1 := (HB.out.ext hY13).cellv 1 (v := .slice a R.length c) rfl
  have g2 := (HB.out.ext hY13).cellv 2 (v := .slice a1 y.length c1) rfl
  have hz1 := (HB.out.ext hY13).lt
  by_cases k0 : flowErr (M : Int) R y x = 0
  case neg =>
    have hb : (flowErr (M : Int) R y x != 0) = true := by simp [k0]
    clear k0
    generalize flowErr (M : Int) R y x = E at *
    generalize flowV (M : Int) R y x = V at *
    go_wp2_with fail
    go_ret
    exact ⟨rfl, hE13⟩
  have hb : (flowErr (M : Int) R y x != 0) = false := by simp [k0]
  rw [k0]
  have K0 := Lib.hid k0
  clear k0 hb
  go_wp2_with fail
  go_loopw [23, 24, 26] (fun v23 v24 v26 wr => ∃ (k : Nat) (L : List Int) (a3 : Option Addr) (c3 : Nat), k ≤ 30 ∧ v26 = .int .i64 k ∧ v23 = .slice a3 L.length c3 ∧ v24 = .int .i64 (flowV (M : Int) R y L) ∧ Ext w13 wr ∧ Hid (Ints wr a3 L) ∧ Hid (flowErr (M : Int) R y L = 0)) (fun _ _ i _ => 30 - (intOf i).toNat)
  case atStart => exact ⟨0, x, a4, c4, by omega, rfl, rfl, rfl, Below.refl _ _, HI5, K0⟩
  case round =>
    obtain ⟨k, L, a3, c3, hk, rfl, rfl, rfl, hX, HI, HF⟩ := hrel
    obtain ⟨wo, rfl⟩ : ∃ wo : World, wo = wr := ⟨_, rfl⟩
    have hE := hE13.trans' hX
    have hY := hY13.trans' hX
    have hZ := hZ13.trans' hX
    clear g0 g1 g2 hz1
    have g0 := (HB.out.ext hY).cellv 0 (v := .int .i64 (M : Int)) rfl
    have g1 := (HB.out.ext hY).cellv 1 (v := .slice a R.length c) rfl
    have g2 := (HB.out.ext hY).cellv 2 (v := .slice a1 y.length c1) rfl
    have hz1 := (HB.out.ext hY).lt
    have hbd := flowV_bd' HF.out
    by_cases hlt : k < 30
    case neg =>
      go_wp2_with fail
      go_ret
      exact ⟨rfl, hE⟩
    go_wp2_with fail
    refine (f45_c (M : Int) a R.length c R a1 y.length c1 y a3 L.length c3 L _ (hl.ext hE) rfl (by omega) (hy.ext hE) rfl (by omega) HI.out rfl (by omega)).mono ?_
    rintro e w14 ⟨aR, cR, l, rfl, hIR, hr1, hr2, hX14⟩
    have hr := hr2 HF.out
    rw [Int.toNat_natCast] at hr
    have HTR' := Lib.hid (HTR.out L l HF.out hr)
    rw [HF.out]
    have hE14 := hE.trans' hX14
    have hY14 := hY.trans' hX14
    have hZ14 := hZ.trans' hX14
    have hV14 := hX.trans' hX14
    have HIR := Lib.hid hIR
    have HI14 := Lib.hid (HI.out.ext hX14)
    clear hr1 hr2 hr hIR
    clear g0 g1 g2 hz1
    have g0 := (HB.out.ext hY14).cellv 0 (v := .int .i64 (M : Int)) rfl
    have g1 := (HB.out.ext hY14).cellv 1 (v := .slice a R.length c) rfl
    have g2 := (HB.out.ext hY14).cellv 2 (v := .slice a1 y.length c1) rfl
    have hz1 := (HB.out.ext hY14).lt
    rcases HTR'.out with ⟨rfl, r1, r2⟩ | ⟨r0, r1, r2, r3, r4, r5, r6, r7⟩
    · have C38' := Lib.hid (C38b.out a3 c3 L _ hZ14 HI14.out (by omega))
      rw [r2] at C38'
      rw [show decide (0 < ([] : List Int).length) = false from rfl]
      have hd : decide (least < flowV (M : Int) R y L) = false := decide_eq_false (by omega)
      clear r1 r2 HTR'
      generalize flowV (M : Int) R y L = V at *
      go_wp2_with fail
      refine C38'.out.mono ?_
      rintro e w15 ⟨rfl, hX15⟩
      go_wp2_with fail
      go_ret
      exact ⟨rfl, hE14.trans' hX15⟩
    have hd : decide (least < flowV (M : Int) R y L) = true := decide_eq_true r2
    rw [decide_eq_true r0]
    have hbd2 := flowV_bd' r5
    have C46 := Lib.hid (fun W (hW : Ext w14 W) => f46_c (M : Int) a R.length c R a1 y.length c1 y a3 L.length c3 L aR l.length cR l W (hl.ext (hE14.trans' hW)) rfl (by omega) (hy.ext (hE14.trans' hW)) rfl (by omega) (HI14.out.ext hW) rfl (by omega) (HIR.out.ext hW) rfl (by omega))
    have C47 := Lib.hid (fun W (hW : Ext w14 W) => f47_c (M : Int) a R.length c R a1 y.length c1 y a3 L.length c3 L aR l.length cR l W (hl.ext (hE14.trans' hW)) rfl (by omega) (hy.ext (hE14.trans' hW)) rfl (by omega) (HI14.out.ext hW) rfl (by omega) (HIR.out.ext hW) rfl (by omega))
    have C20 := Lib.hid (fun aT cT W (hW : Ext w14 W) hq => f20_c (M : Int) a R.length c R a1 y.length c1 y aT (turnV (M : Int) R y L l).length cT (turnV (M : Int) R y L l) W (hl.ext (hE14.trans' hW)) rfl (by omega) (hy.ext (hE14.trans' hW)) rfl (by omega) hq rfl (by omega))
    rw [r3] at C46 C47
    rw [r5, r6] at C20
    have R5 := Lib.hid r5
    have R6 := Lib.hid r6
    have hd2 : decide (0 ≤ rndV (M : Int) R y L l) = false := decide_eq_false (by omega)
    rw [r6] at hbd2
    clear r0 r1 r2 r3 r5 r6 HTR' HI HI14 HIR HF
    generalize rndV (M : Int) R y L l = D at *
    generalize turnV (M : Int) R y L l = T at *
    generalize flowV (M : Int) R y L = V at *
    go_wp2_with fail
    refine (C46.out _ (Ext.rfl' _)).mono ?_
    rintro e w15 ⟨rfl, hX15⟩
    have hY15 := hY14.trans' hX15
    clear g0 g1 g2 hz1
    have g0 := (HB.out.ext hY15).cellv 0 (v := .int .i64 (M : Int)) rfl
    have g1 := (HB.out.ext hY15).cellv 1 (v := .slice a R.length c) rfl
    have g2 := (HB.out.ext hY15).cellv 2 (v := .slice a1 y.length c1) rfl
    have hz1 := (HB.out.ext hY15).lt
    go_wp2_with fail
    refine (C47.out _ hX15).mono ?_
    rintro e w16 ⟨aT, cT, rfl, hIT, hX16⟩
    have hX16' := hX15.trans' hX16
    have hY16 := hY15.trans' hX16
    have HIT := Lib.hid hIT
    clear hIT
    clear g0 g1 g2 hz1
    have g0 := (HB.out.ext hY16).cellv 0 (v := .int .i64 (M : Int)) rfl
    have g1 := (HB.out.ext hY16).cellv 1 (v := .slice a R.length c) rfl
    have g2 := (HB.out.ext hY16).cellv 2 (v := .slice a1 y.length c1) rfl
    have hz1 := (HB.out.ext hY16).lt
    go_wp2_with fail
    refine (C20.out aT cT _ hX16' HIT.out).mono ?_
    rintro e w17 ⟨rfl, hX17⟩
    have hY17 := hY16.trans' hX17
    have hV17 := (hV14.trans' hX16').trans' hX17
    clear g0 g1 g2 hz1
    have g0 := (HB.out.ext hY17).cellv 0 (v := .int .i64 (M : Int)) rfl
    have g1 := (HB.out.ext hY17).cellv 1 (v := .slice a R.length c) rfl
    have g2 := (HB.out.ext hY17).cellv 2 (v := .slice a1 y.length c1) rfl
    have hz1 := (HB.out.ext hY17).lt
    have Hr := Lib.hid (reads_ints ((HIT.out.ext hX17).ext (ext_alloc w17 (.cells #[] 3))))
    have Hrow := Lib.hid (row_empty w17 3 1)
    clear HIT C46 C47 C20
    have hVD : (V + D != V + D) = false := by simp
    go_wp2_with (at_builtin; refine wpList_append_any _ rfl (.tmp 295) (.tmp 296) 25 rfl w17.heap.size 3 i0 (.int .i64 0) 1 8 Try.underlying25 Hi.out.1 Hi.out.2.1 Hi.out.2.2.1 Hi.out.2.2.2 rfl (by omega) (.slice (some ⟨w17.heap.size, 0, none⟩) 0 0) 0 [] rfl Hrow.out _ aT T.length cT (T.map (.int .i64)) rfl Hr.out ints_one (by unfold maxLen; omega) (by omega) (by simp) ?_; intro v1 w18 hown hgrow hat; have hX18 := ext_grow (ext_alloc _ _) Hrow.out (Nat.le_refl _) hgrow; rw [Nat.zero_add, List.nil_append] at hown; obtain ⟨a6, c6, rfl, hI6⟩ := ints_of_row hown; clear hown hgrow hat; have HI6 := Lib.hid hI6; clear hI6 Hr Hrow)
    refine ⟨⟨k + 1, T, a6, c6, by omega, by rw [Int.natCast_add]; rfl, rfl, by rw [R6.out], hV17.trans' hX18, HI6, R5⟩, ?_⟩
    show 30 - ((k : Int) + 1).toNat < 30 - ((k : Int)).toNat
    omega
end Go.Proofs.Ytbejgbflipoboaa
