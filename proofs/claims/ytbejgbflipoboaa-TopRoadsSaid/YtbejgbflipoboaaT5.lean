/- Contracts of roads: Excess, CheckFlow. -/
import Derived.Test.YtbejgbflipoboaaT4
namespace Go.Proofs.Ytbejgbflipoboaa
open Go.RowKit
attribute [local go_sem] GW.cell
theorem leavesV_no {N : Int} {R : List Road} {x : List Int} (h : leavesErr N R x ≠ 0) : leavesV N R x = [] := by unfold leavesV; rw [if_neg h]
theorem leavesErr_net {N : Int} {R : List Road} {x : List Int} (h : netErr N R ≠ 0) : leavesErr N R x = netErr N R := by unfold leavesErr; rw [if_pos h]
theorem leavesErr_flow {N : Int} {R : List Road} {x : List Int} (h : netErr N R = 0) : leavesErr N R x = flErr R x := by unfold leavesErr flErr; rw [if_neg (by simpa using h)]
theorem flErr_no {R : List Road} {x : List Int} (h : flowB R x = false) : flErr R x = 1 := by unfold flErr; rw [h]; rfl
theorem flErr_yes {R : List Road} {x : List Int} (h : flowB R x = true) : flErr R x = 0 := by unfold flErr; rw [h]; rfl
theorem flowErr_exc {N : Int} {R : List Road} {y x : List Int} (h : excErr N R y ≠ 0) : flowErr N R y x = excErr N R y := by unfold flowErr; rw [if_pos h]
theorem flowErr_no {N : Int} {R : List Road} {y x : List Int} (h : excErr N R y = 0) (hf : flowB R x = false) : flowErr N R y x = 1 := by unfold flowErr; rw [if_neg (by simpa using h), hf]; rfl
theorem flowErr_yes {N : Int} {R : List Road} {y x : List Int} (h : excErr N R y = 0) (hf : flowB R x = true) : flowErr N R y x = if sameI (leaveTo N.toNat R x R.length) y then 0 else 7 := by unfold flowErr sameI; rw [if_neg (by simpa using h), if_pos hf]; simp
theorem flowV_no {N : Int} {R : List Road} {y x : List Int} (h : flowErr N R y x ≠ 0) : flowV N R y x = 0 := by unfold flowV; rw [if_neg h]
theorem flowV_yes {N : Int} {R : List Road} {y x : List Int} (h : flowErr N R y x = 0) : flowV N R y x = costTo R x R.length := by unfold flowV; rw [if_pos h]
theorem flowErr_ok {N : Int} {R : List Road} {y x : List Int} (h : flowErr N R y x = 0) : excErr N R y = 0 ∧ flowB R x = true ∧ leaveTo N.toNat R x R.length = y := by
  unfold flowErr at h
  by_cases h1 : excErr N R y = 0
  · rw [if_neg (by simpa using h1)] at h
    by_cases h2 : flowB R x = true
    · rw [if_pos h2] at h
      by_cases h3 : leaveTo N.toNat R x R.length = y
      · exact ⟨h1, h2, h3⟩
      · rw [if_neg h3] at h; simp at h
    · rw [if_neg h2] at h; simp at h
  · rw [if_pos h1] at h; exact absurd h h1
theorem ret_ii {x x' y y' : Int} (h1 : x = x') (h2 : y = y') : Ending.returned (.tuple #[.int .i64 x, .int .i64 y]) = .returned (.tuple #[.int .i64 x', .int .i64 y']) := by rw [h1, h2]
set_option maxHeartbeats 4000000 in
theorem f32_c (N : Int) (a : Option Addr) (n c : Nat) (R : List Road) (a2 : Option Addr) (n2 c2 : Nat) (x : List Int) (w : World) (hl : Roads w a R) (hn : R.length = n) (hlen : n ≤ 140737488355328) (hx : Ints w a2 x) (hn2 : x.length = n2) (hlen2 : n2 ≤ 1000000) :
    Calls Try.prog 32 #[.agg #[.int .i64 N, .slice a n c], .slice a2 n2 c2] w (RetInts (leavesV N R x) (leavesErr N R x) w) := by
  subst hn hn2
  have hE0 := ext_alloc w (.cells #[.int .i64 N, .slice a R.length c] 24)
  have HB := Lib.hid (BlkC.new w #[.int .i64 N, .slice a R.length c] 24)
  have hz := HB.out.lt
  have g0 := HB.out.cellv 0 (v := .int .i64 N) rfl
  have g1 := HB.out.cellv 1 (v := .slice a R.length c) rfl
  go_enter Try.func32, Try.ntmps32
  go_wp2_with fail
  generalize (w.alloc (.cells #[.int .i64 N, .slice a R.length c] 24)) = w0 at *
  refine (f22_c N a R.length c R _ (hl.ext hE0) rfl hlen).mono ?_
  rintro e w1 ⟨rfl, hX1⟩
  have hE1 := hE0.trans' hX1
  by_cases h0 : netErr N R = 0
  case neg =>
    have hb : (netErr N R != 0) = true := by simp [h0]
    have HR : Hid (RetInts (leavesV N R x) (leavesErr N R x) w (.returned (.tuple #[.slice none 0 0, .int .i64 (netErr N R)])) w1) := Lib.hid (by
      rw [leavesErr_net h0, leavesV_no (by rw [leavesErr_net h0]; exact h0)]; exact retInts_nil hE1)
    clear h0
    generalize netErr N R = E at *
    go_wp2_with fail
    go_ret2
    exact HR.out
  have H0 := Lib.hid h0
  have Hok := Lib.hid (netErr_ok h0)
  rw [h0]
  clear h0
  clear g0 g1
  have g0 := (HB.out.ext hX1).cellv 0 (v := .int .i64 N) rfl
  have g1 := (HB.out.ext hX1).cellv 1 (v := .slice a R.length c) rfl
  have hzr := (HB.out.ext hX1).lt
  go_wp2_with fail
  refine (f57_c N a R.length c R a2 x.length c2 x _ (hl.ext hE1) rfl hlen (hx.ext hE1) rfl hlen2).mono ?_
  rintro e w2 ⟨rfl, hX2⟩
  have hE2 := hE1.trans' hX2
  have hY2 := hX1.trans' hX2
  rcases Bool.eq_false_or_eq_true (flowB R x) with hf | hf
  case inr =>
    have HR : Hid (RetInts (leavesV N R x) (leavesErr N R x) w (.returned (.tuple #[.slice none 0 0, .int .i64 1])) w2) := Lib.hid (by
      have e1 : leavesErr N R x = 1 := by rw [leavesErr_flow H0.out, flErr_no hf]
      rw [e1, leavesV_no (by rw [e1]; omega)]; exact retInts_nil hE2)
    rw [hf]
    clear hf
    go_wp2_with fail
    go_ret2
    exact HR.out
  have Hf := Lib.hid hf
  have HE : Hid (leavesErr N R x = 0) := Lib.hid (by rw [leavesErr_flow H0.out, flErr_yes hf])
  have HV : Hid (leavesV N R x = leaveTo N.toNat R x R.length) := Lib.hid (by unfold leavesV; rw [if_pos HE.out])
  rw [hf]
  clear hf
  clear g0 g1
  have g0 := (HB.out.ext hY2).cellv 0 (v := .int .i64 N) rfl
  have g1 := (HB.out.ext hY2).cellv 1 (v := .slice a R.length c) rfl
  have hzr := (HB.out.ext hY2).lt
  go_wp2_with fail
  refine (f59_c N a R.length c R a2 x.length c2 x _ (hl.ext hE2) rfl hlen (hx.ext hE2) rfl hlen2 Hok.out Hf.out).mono ?_
  rintro e w3 ⟨a3, c3, rfl, hI, hX3⟩
  have HR : Hid (RetInts (leavesV N R x) (leavesErr N R x) w (.returned (.tuple #[.slice a3 (leaveTo N.toNat R x R.length).length c3, .int .i64 0])) w3) := Lib.hid (by
    rw [HE.out, HV.out]; exact ⟨a3, c3, rfl, hI, hE2.trans' hX3⟩)
  clear HE HV hI
  go_wp2_with fail
  go_ret2
  exact HR.out
set_option maxHeartbeats 4000000 in
theorem f33_c (N : Int) (a : Option Addr) (n c : Nat) (R : List Road) (a2 : Option Addr) (n2 c2 : Nat) (x : List Int) (w : World) (hl : Roads w a R) (hn : R.length = n) (hlen : n ≤ 140737488355328) (hx : Ints w a2 x) (hn2 : x.length = n2) (hlen2 : n2 ≤ 1000000) :
    Calls Try.prog 33 #[.agg #[.int .i64 N, .slice a n c], .slice a2 n2 c2] w (RetInts (leavesV N R x) (leavesErr N R x) w) := by
  subst hn hn2
  have hE0 := ext_alloc w (.cells #[.int .i64 N, .slice a R.length c] 24)
  have HB := Lib.hid (BlkC.new w #[.int .i64 N, .slice a R.length c] 24)
  have hz := HB.out.lt
  have g0 := HB.out.cellv 0 (v := .int .i64 N) rfl
  have g1 := HB.out.cellv 1 (v := .slice a R.length c) rfl
  go_enter Try.func33, Try.ntmps33
  go_wp2_with fail
  generalize (w.alloc (.cells #[.int .i64 N, .slice a R.length c] 24)) = w0 at *
  refine (f23_c N a R.length c R _ (hl.ext hE0) rfl hlen).mono ?_
  rintro e w1 ⟨rfl, hX1⟩
  have hE1 := hE0.trans' hX1
  by_cases h0 : netErr N R = 0
  case neg =>
    have hb : (netErr N R != 0) = true := by simp [h0]
    have HR : Hid (RetInts (leavesV N R x) (leavesErr N R x) w (.returned (.tuple #[.slice none 0 0, .int .i64 (netErr N R)])) w1) := Lib.hid (by
      rw [leavesErr_net h0, leavesV_no (by rw [leavesErr_net h0]; exact h0)]; exact retInts_nil hE1)
    clear h0
    generalize netErr N R = E at *
    go_wp2_with fail
    go_ret2
    exact HR.out
  have H0 := Lib.hid h0
  have Hok := Lib.hid (netErr_ok h0)
  rw [h0]
  clear h0
  clear g0 g1
  have g0 := (HB.out.ext hX1).cellv 0 (v := .int .i64 N) rfl
  have g1 := (HB.out.ext hX1).cellv 1 (v := .slice a R.length c) rfl
  have hzr := (HB.out.ext hX1).lt
  go_wp2_with fail
  refine (f61_c N a R.length c R a2 x.length c2 x _ (hl.ext hE1) rfl hlen (hx.ext hE1) rfl hlen2).mono ?_
  rintro e w2 ⟨rfl, hX2⟩
  have hE2 := hE1.trans' hX2
  have hY2 := hX1.trans' hX2
  rcases Bool.eq_false_or_eq_true (flowB R x) with hf | hf
  case inr =>
    have HR : Hid (RetInts (leavesV N R x) (leavesErr N R x) w (.returned (.tuple #[.slice none 0 0, .int .i64 1])) w2) := Lib.hid (by
      have e1 : leavesErr N R x = 1 := by rw [leavesErr_flow H0.out, flErr_no hf]
      rw [e1, leavesV_no (by rw [e1]; omega)]; exact retInts_nil hE2)
    rw [flErr_no hf]
    clear hf
    go_wp2_with fail
    go_ret2
    exact HR.out
  have Hf := Lib.hid hf
  have HE : Hid (leavesErr N R x = 0) := Lib.hid (by rw [leavesErr_flow H0.out, flErr_yes hf])
  have HV : Hid (leavesV N R x = leaveTo N.toNat R x R.length) := Lib.hid (by unfold leavesV; rw [if_pos HE.out])
  rw [flErr_yes hf]
  clear hf
  clear g0 g1
  have g0 := (HB.out.ext hY2).cellv 0 (v := .int .i64 N) rfl
  have g1 := (HB.out.ext hY2).cellv 1 (v := .slice a R.length c) rfl
  have hzr := (HB.out.ext hY2).lt
  go_wp2_with fail
  refine (f62_c N a R.length c R a2 x.length c2 x _ (hl.ext hE2) rfl hlen (hx.ext hE2) rfl hlen2 Hok.out Hf.out).mono ?_
  rintro e w3 ⟨a3, c3, rfl, hI, hX3⟩
  have HR : Hid (RetInts (leavesV N R x) (leavesErr N R x) w (.returned (.tuple #[.slice a3 (leaveTo N.toNat R x R.length).length c3, .int .i64 0])) w3) := Lib.hid (by
    rw [HE.out, HV.out]; exact ⟨a3, c3, rfl, hI, hE2.trans' hX3⟩)
  clear HE HV hI
  go_wp2_with fail
  go_ret2
  exact HR.out
set_option maxHeartbeats 4000000 in
theorem f20_c (N : Int) (a : Option Addr) (n c : Nat) (R : List Road) (a1 : Option Addr) (n1 c1 : Nat) (y : List Int) (a2 : Option Addr) (n2 c2 : Nat) (x : List Int) (w : World) (hl : Roads w a R) (hn : R.length = n) (hlen : n ≤ 140737488355328) (hy : Ints w a1 y) (hn1 : y.length = n1) (hlen1 : n1 ≤ 1000000) (hx : Ints w a2 x) (hn2 : x.length = n2) (hlen2 : n2 ≤ 1000000) :
    Calls Try.prog 20 #[.agg #[.int .i64 N, .slice a n c], .slice a1 n1 c1, .slice a2 n2 c2] w fun e w' => e = .returned (.tuple #[.int .i64 (flowV N R y x), .int .i64 (flowErr N R y x)]) ∧ Ext w w' := by
  subst hn hn1 hn2
  have hE0 := ext_alloc w (.cells #[.int .i64 N, .slice a R.length c] 24)
  have HB := Lib.hid (BlkC.new w #[.int .i64 N, .slice a R.length c] 24)
  have hz := HB.out.lt
  have g0 := HB.out.cellv 0 (v := .int .i64 N) rfl
  have g1 := HB.out.cellv 1 (v := .slice a R.length c) rfl
  go_enter Try.func20, Try.ntmps20
  go_wp2_with fail
  generalize (w.alloc (.cells #[.int .i64 N, .slice a R.length c] 24)) = w0 at *
  refine (f24_c N a R.length c R a1 y.length c1 y _ (hl.ext hE0) rfl hlen (hy.ext hE0) rfl hlen1).mono ?_
  rintro e w1 ⟨rfl, hX1⟩
  have hE1 := hE0.trans' hX1
  by_cases h0 : excErr N R y = 0
  case neg =>
    have hb : (excErr N R y != 0) = true := by simp [h0]
    have HE : Hid (flowErr N R y x = excErr N R y) := Lib.hid (flowErr_exc h0)
    have HV : Hid (flowV N R y x = 0) := Lib.hid (flowV_no (by rw [HE.out]; exact h0))
    clear h0
    generalize excErr N R y = E at *
    go_wp2_with fail
    go_ret2
    exact ⟨ret_ii HV.out.symm HE.out.symm, hE1⟩
  have H0 := Lib.hid h0
  have Hok := Lib.hid (netErr_ok (excErr_ok h0).1)
  have h6 := Hok.out.n1
  rw [h0]
  clear h0
  clear g0 g1
  have g0 := (HB.out.ext hX1).cellv 0 (v := .int .i64 N) rfl
  have g1 := (HB.out.ext hX1).cellv 1 (v := .slice a R.length c) rfl
  have hzr := (HB.out.ext hX1).lt
  go_wp2_with fail
  refine (f57_c N a R.length c R a2 x.length c2 x _ (hl.ext hE1) rfl hlen (hx.ext hE1) rfl hlen2).mono ?_
  rintro e w2 ⟨rfl, hX2⟩
  have hE2 := hE1.trans' hX2
  have hY2 := hX1.trans' hX2
  rcases Bool.eq_false_or_eq_true (flowB R x) with hf | hf
  case inr =>
    have HE : Hid (flowErr N R y x = 1) := Lib.hid (flowErr_no H0.out hf)
    have HV : Hid (flowV N R y x = 0) := Lib.hid (flowV_no (by rw [HE.out]; omega))
    rw [hf]
    clear hf
    go_wp2_with fail
    go_ret2
    exact ⟨ret_ii HV.out.symm HE.out.symm, hE2⟩
  have Hf := Lib.hid hf
  have HE := Lib.hid (flowErr_yes H0.out hf)
  rw [hf]
  clear hf
  clear g0 g1
  have g0 := (HB.out.ext hY2).cellv 0 (v := .int .i64 N) rfl
  have g1 := (HB.out.ext hY2).cellv 1 (v := .slice a R.length c) rfl
  have hzr := (HB.out.ext hY2).lt
  go_wp2_with fail
  refine (f59_c N a R.length c R a2 x.length c2 x _ (hl.ext hE2) rfl hlen (hx.ext hE2) rfl hlen2 Hok.out Hf.out).mono ?_
  rintro e w3 ⟨a3, c3, rfl, hI, hX3⟩
  have hE3 := hE2.trans' hX3
  have hY3 := hY2.trans' hX3
  have hll := leaveTo_length N.toNat R x R.length
  have hll2 : (leaveTo N.toNat R x R.length).length ≤ 6 := by omega
  clear hll
  have HI := Lib.hid hI
  clear hI
  generalize leaveTo N.toNat R x R.length = LL at *
  clear g0 g1
  have g0 := (HB.out.ext hY3).cellv 0 (v := .int .i64 N) rfl
  have g1 := (HB.out.ext hY3).cellv 1 (v := .slice a R.length c) rfl
  have hzr := (HB.out.ext hY3).lt
  go_wp2_with fail
  refine (f58_c a3 a1 LL.length c3 y.length c1 LL y _ HI.out (hy.ext hE3) rfl rfl (by omega) hlen1).mono ?_
  rintro e w4 ⟨rfl, hX4⟩
  have hE4 := hE3.trans' hX4
  have hY4 := hY3.trans' hX4
  rcases Bool.eq_false_or_eq_true (sameI LL y) with hs | hs
  case inr =>
    have HE7 : Hid (flowErr N R y x = 7) := Lib.hid (by rw [HE.out, hs]; rfl)
    have HV : Hid (flowV N R y x = 0) := Lib.hid (flowV_no (by rw [HE7.out]; omega))
    rw [hs]
    clear hs HE
    go_wp2_with fail
    go_ret2
    exact ⟨ret_ii HV.out.symm HE7.out.symm, hE4⟩
  have HE7 : Hid (flowErr N R y x = 0) := Lib.hid (by rw [HE.out, hs]; rfl)
  have HV : Hid (flowV N R y x = costTo R x R.length) := Lib.hid (flowV_yes HE7.out)
  rw [hs]
  clear hs HE
  clear g0 g1
  have g0 := (HB.out.ext hY4).cellv 0 (v := .int .i64 N) rfl
  have g1 := (HB.out.ext hY4).cellv 1 (v := .slice a R.length c) rfl
  have hzr := (HB.out.ext hY4).lt
  go_wp2_with fail
  refine (f60_c N a R.length c R a2 x.length c2 x _ (hl.ext hE4) rfl hlen (hx.ext hE4) rfl hlen2 Hok.out Hf.out).mono ?_
  rintro e w5 ⟨rfl, hX5⟩
  go_wp2_with fail
  go_ret2
  exact ⟨ret_ii HV.out.symm HE7.out.symm, hE4.trans' hX5⟩
set_option maxHeartbeats 4000000 in
theorem f21_c (N : Int) (a : Option Addr) (n c : Nat) (R : List Road) (a1 : Option Addr) (n1 c1 : Nat) (y : List Int) (a2 : Option Addr) (n2 c2 : Nat) (x : List Int) (w : World) (hl : Roads w a R) (hn : R.length = n) (hlen : n ≤ 140737488355328) (hy : Ints w a1 y) (hn1 : y.length = n1) (hlen1 : n1 ≤ 1000000) (hx : Ints w a2 x) (hn2 : x.length = n2) (hlen2 : n2 ≤ 1000000) :
    Calls Try.prog 21 #[.agg #[.int .i64 N, .slice a n c], .slice a1 n1 c1, .slice a2 n2 c2] w fun e w' => e = .returned (.tuple #[.int .i64 (flowV N R y x), .int .i64 (flowErr N R y x)]) ∧ Ext w w' := by
  subst hn hn1 hn2
  have hE0 := ext_alloc w (.cells #[.int .i64 N, .slice a R.length c] 24)
  have HB := Lib.hid (BlkC.new w #[.int .i64 N, .slice a R.length c] 24)
  have hz := HB.out.lt
  have g0 := HB.out.cellv 0 (v := .int .i64 N) rfl
  have g1 := HB.out.cellv 1 (v := .slice a R.length c) rfl
  go_enter Try.func21, Try.ntmps21
  go_wp2_with fail
  generalize (w.alloc (.cells #[.int .i64 N, .slice a R.length c] 24)) = w0 at *
  refine (f25_c N a R.length c R a1 y.length c1 y _ (hl.ext hE0) rfl hlen (hy.ext hE0) rfl hlen1).mono ?_
  rintro e w1 ⟨rfl, hX1⟩
  have hE1 := hE0.trans' hX1
  by_cases h0 : excErr N R y = 0
  case neg =>
    have hb : (excErr N R y != 0) = true := by simp [h0]
    have HE : Hid (flowErr N R y x = excErr N R y) := Lib.hid (flowErr_exc h0)
    have HV : Hid (flowV N R y x = 0) := Lib.hid (flowV_no (by rw [HE.out]; exact h0))
    clear h0
    generalize excErr N R y = E at *
    go_wp2_with fail
    go_ret2
    exact ⟨ret_ii HV.out.symm HE.out.symm, hE1⟩
  have H0 := Lib.hid h0
  have Hok := Lib.hid (netErr_ok (excErr_ok h0).1)
  have h6 := Hok.out.n1
  rw [h0]
  clear h0
  clear g0 g1
  have g0 := (HB.out.ext hX1).cellv 0 (v := .int .i64 N) rfl
  have g1 := (HB.out.ext hX1).cellv 1 (v := .slice a R.length c) rfl
  have hzr := (HB.out.ext hX1).lt
  go_wp2_with fail
  refine (f61_c N a R.length c R a2 x.length c2 x _ (hl.ext hE1) rfl hlen (hx.ext hE1) rfl hlen2).mono ?_
  rintro e w2 ⟨rfl, hX2⟩
  have hE2 := hE1.trans' hX2
  have hY2 := hX1.trans' hX2
  rcases Bool.eq_false_or_eq_true (flowB R x) with hf | hf
  case inr =>
    have HE : Hid (flowErr N R y x = 1) := Lib.hid (flowErr_no H0.out hf)
    have HV : Hid (flowV N R y x = 0) := Lib.hid (flowV_no (by rw [HE.out]; omega))
    rw [flErr_no hf]
    clear hf
    go_wp2_with fail
    go_ret2
    exact ⟨ret_ii HV.out.symm HE.out.symm, hE2⟩
  have Hf := Lib.hid hf
  have HE := Lib.hid (flowErr_yes H0.out hf)
  rw [flErr_yes hf]
  clear hf
  clear g0 g1
  have g0 := (HB.out.ext hY2).cellv 0 (v := .int .i64 N) rfl
  have g1 := (HB.out.ext hY2).cellv 1 (v := .slice a R.length c) rfl
  have hzr := (HB.out.ext hY2).lt
  go_wp2_with fail
  refine (f62_c N a R.length c R a2 x.length c2 x _ (hl.ext hE2) rfl hlen (hx.ext hE2) rfl hlen2 Hok.out Hf.out).mono ?_
  rintro e w3 ⟨a3, c3, rfl, hI, hX3⟩
  have hE3 := hE2.trans' hX3
  have hY3 := hY2.trans' hX3
  have hll := leaveTo_length N.toNat R x R.length
  have hll2 : (leaveTo N.toNat R x R.length).length ≤ 6 := by omega
  clear hll
  have HI := Lib.hid hI
  clear hI
  generalize leaveTo N.toNat R x R.length = LL at *
  clear g0 g1
  have g0 := (HB.out.ext hY3).cellv 0 (v := .int .i64 N) rfl
  have g1 := (HB.out.ext hY3).cellv 1 (v := .slice a R.length c) rfl
  have hzr := (HB.out.ext hY3).lt
  go_wp2_with fail
  refine (f34_c a3 a1 LL.length c3 y.length c1 LL y _ HI.out (hy.ext hE3) rfl rfl (by omega) hlen1).mono ?_
  rintro e w4 ⟨rfl, hX4⟩
  have hE4 := hE3.trans' hX4
  have hY4 := hY3.trans' hX4
  rcases Bool.eq_false_or_eq_true (sameI LL y) with hs | hs
  case inr =>
    have HE7 : Hid (flowErr N R y x = 7) := Lib.hid (by rw [HE.out, hs]; rfl)
    have HV : Hid (flowV N R y x = 0) := Lib.hid (flowV_no (by rw [HE7.out]; omega))
    rw [hs]
    clear hs HE
    go_wp2_with fail
    go_ret2
    exact ⟨ret_ii HV.out.symm HE7.out.symm, hE4⟩
  have HE7 : Hid (flowErr N R y x = 0) := Lib.hid (by rw [HE.out, hs]; rfl)
  have HV : Hid (flowV N R y x = costTo R x R.length) := Lib.hid (flowV_yes HE7.out)
  rw [hs]
  clear hs HE
  clear g0 g1
  have g0 := (HB.out.ext hY4).cellv 0 (v := .int .i64 N) rfl
  have g1 := (HB.out.ext hY4).cellv 1 (v := .slice a R.length c) rfl
  have hzr := (HB.out.ext hY4).lt
  go_wp2_with fail
  refine (f63_c N a R.length c R a2 x.length c2 x _ (hl.ext hE4) rfl hlen (hx.ext hE4) rfl hlen2 Hok.out Hf.out).mono ?_
  rintro e w5 ⟨rfl, hX5⟩
  go_wp2_with fail
  go_ret2
  exact ⟨ret_ii HV.out.symm HE7.out.symm, hE4.trans' hX5⟩
end Go.Proofs.Ytbejgbflipoboaa
