/- RoadExcesses: the law's walk. -/
import Derived.Test.YtbejgbflipoboaaT12
namespace Go.Proofs.Ytbejgbflipoboaa
open Go.RowKit
attribute [local go_sem] GW.cell
theorem leaves_len {N : Int} {R : List Road} {x : List Int} : (leavesV N R x).length ≤ 6 := by
  unfold leavesV
  split
  · rename_i h
    have h0 : netErr N R = 0 := by
      unfold leavesErr at h
      by_cases h1 : netErr N R = 0
      · exact h1
      · rw [if_pos h1] at h; exact absurd h h1
    rw [leaveTo_length]
    have := (netErr_ok h0).n1
    omega
  · simp
theorem leaves_flow {N : Int} {R : List Road} {x : List Int} (h : leavesErr N R x = 0) (h2 : excErr N R (leavesV N R x) = 0) : flowErr N R (leavesV N R x) x = 0 := by
  have hf : flowB R x = true := by
    unfold leavesErr at h
    by_cases h1 : netErr N R = 0
    · rw [if_neg (by simpa using h1)] at h
      by_cases h3 : flowB R x = true
      · exact h3
      · rw [if_neg h3] at h; simp at h
    · rw [if_pos h1] at h; exact absurd h h1
  rw [flowErr_yes h2 hf]
  unfold leavesV
  rw [if_pos h]
  simp [sameI]
set_option maxRecDepth 20000 in
set_option maxHeartbeats 8000000 in
theorem lawExc (w : World) (N : Int) (a : Option Addr) (n c : Nat) (R : List Road) (hl : Roads w a R) (hn : R.length = n) (a2 : Option Addr) (n2 c2 : Nat) (x : List Int) (hx : Ints w a2 x) (hn2 : x.length = n2) :
    Calls Try.prog 6 #[.agg #[.int .i64 N, .slice a n c], .slice a2 n2 c2] w fun e w' => e = .returned (.bool true) ∧ Ext w w' := by
  subst hn hn2
  have hE0 := ext_alloc w (.cells #[.int .i64 N, .slice a R.length c] 24)
  have HB := Lib.hid (BlkC.new w #[.int .i64 N, .slice a R.length c] 24)
  have hz := HB.out.lt
  have g0 := HB.out.cellv 0 (v := .int .i64 N) rfl
  have g1 := HB.out.cellv 1 (v := .slice a R.length c) rfl
  go_enter Try.func6, Try.ntmps6
  go_wp2_with fail
  generalize (w.alloc (.cells #[.int .i64 N, .slice a R.length c] 24)) = w0 at *
  refine (f31_c N a R.length c _).mono ?_
  rintro e w1 ⟨rfl, hX1⟩
  have hE1 := hE0.trans' hX1
  clear g0 g1
  have g0 := (HB.out.ext hX1).cellv 0 (v := .int .i64 N) rfl
  have g1 := (HB.out.ext hX1).cellv 1 (v := .slice a R.length c) rfl
  have hz1 := (HB.out.ext hX1).lt
  by_cases h1 : 60 < R.length
  · rw [decide_eq_true (show (60 : Int) < (R.length : Int) by omega)]
    go_wp2_with fail
    refine (f19_c _).mono ?_
    rintro e w9 ⟨rfl, hX9⟩
    go_wp2_with fail
    go_ret
    exact ⟨rfl, hE1.trans' hX9⟩
  rw [decide_eq_false (show ¬ (60 : Int) < (R.length : Int) by omega)]
  go_wp2_with fail
  refine (f18_c a2 x.length c2 _).mono ?_
  rintro e w8 ⟨rfl, rfl⟩
  by_cases h2 : 60 < x.length
  · rw [decide_eq_true (show (60 : Int) < (x.length : Int) by omega)]
    go_wp2_with fail
    refine (f19_c _).mono ?_
    rintro e w9 ⟨rfl, hX9⟩
    go_wp2_with fail
    go_ret
    exact ⟨rfl, hE1.trans' hX9⟩
  rw [decide_eq_false (show ¬ (60 : Int) < (x.length : Int) by omega)]
  have hLl := leaves_len (N := N) (R := R) (x := x)
  have HLF := Lib.hid (leaves_flow (N := N) (R := R) (x := x))
  go_wp2_with fail
  refine (f32_c N a R.length c R a2 x.length c2 x _ (hl.ext hE1) rfl (by omega) (hx.ext hE1) rfl (by omega)).mono ?_
  rintro e w2 ⟨a3, c3, rfl, hI3, hX2⟩
  have hE2 := hE1.trans' hX2
  have hY2 := hX1.trans' hX2
  clear g0 g1 hz1
  have g0 := (HB.out.ext hY2).cellv 0 (v := .int .i64 N) rfl
  have g1 := (HB.out.ext hY2).cellv 1 (v := .slice a R.length c) rfl
  have hz1 := (HB.out.ext hY2).lt
  go_wp2_with fail
  refine (f33_c N a R.length c R a2 x.length c2 x _ (hl.ext hE2) rfl (by omega) (hx.ext hE2) rfl (by omega)).mono ?_
  rintro e w3 ⟨a4, c4, rfl, hI4, hX3⟩
  have hE3 := hE2.trans' hX3
  have hY3 := hY2.trans' hX3
  have HI3 := Lib.hid (hI3.ext hX3)
  have HI4 := Lib.hid hI4
  clear g0 g1 hz1 hI3 hI4
  have hEE : (leavesErr N R x != leavesErr N R x) = false := by simp
  generalize leavesV N R x = L at *
  go_wp2_with fail
  refine (f34_c a3 a4 L.length c3 L.length c4 L L _ HI3.out HI4.out rfl rfl (by omega) (by omega)).mono ?_
  rintro e w4 ⟨rfl, hX4⟩
  rw [show sameI L L = true by simp [sameI]]
  have hE4 := hE3.trans' hX4
  have hY4 := hY3.trans' hX4
  have HI5 := Lib.hid (HI3.out.ext hX4)
  have g0 := (HB.out.ext hY4).cellv 0 (v := .int .i64 N) rfl
  have g1 := (HB.out.ext hY4).cellv 1 (v := .slice a R.length c) rfl
  have hz1 := (HB.out.ext hY4).lt
  by_cases h0 : leavesErr N R x = 0
  case neg =>
    have hb : (leavesErr N R x != 0) = true := by simp [h0]
    clear h0 HLF
    generalize leavesErr N R x = E at *
    go_wp2_with fail
    refine (f19_c _).mono ?_
    rintro e w9 ⟨rfl, hX9⟩
    go_wp2_with fail
    go_ret
    exact ⟨rfl, hE4.trans' hX9⟩
  have HLF := Lib.hid (HLF.out h0)
  rw [h0]
  clear h0 hEE
  go_wp2_with fail
  refine (f24_c N a R.length c R a3 L.length c3 L _ (hl.ext hE4) rfl (by omega) HI5.out rfl (by omega)).mono ?_
  rintro e w5 ⟨rfl, hX5⟩
  have hE5 := hE4.trans' hX5
  have hY5 := hY4.trans' hX5
  have HI6 := Lib.hid (HI5.out.ext hX5)
  clear g0 g1 hz1
  have g0 := (HB.out.ext hY5).cellv 0 (v := .int .i64 N) rfl
  have g1 := (HB.out.ext hY5).cellv 1 (v := .slice a R.length c) rfl
  have hz1 := (HB.out.ext hY5).lt
  by_cases h0 : excErr N R L = 0
  case neg =>
    have hb : (excErr N R L != 0) = true := by simp [h0]
    clear h0 HLF
    generalize excErr N R L = E at *
    go_wp2_with fail
    refine (f19_c _).mono ?_
    rintro e w9 ⟨rfl, hX9⟩
    go_wp2_with fail
    go_ret
    exact ⟨rfl, hE5.trans' hX9⟩
  have HLF := Lib.hid (HLF.out h0)
  rw [h0]
  clear h0
  have C20 := f20_c N a R.length c R a3 L.length c3 L a2 x.length c2 x w5 (hl.ext hE5) rfl (by omega) HI6.out rfl (by omega) (hx.ext hE5) rfl (by omega)
  rw [HLF.out] at C20
  have C20 := Lib.hid C20
  generalize flowV N R L x = V at *
  go_wp2_with fail
  refine C20.out.mono ?_
  clear C20
  rintro e w6 ⟨rfl, hX6⟩
  go_wp2_with fail
  refine (f19_c _).mono ?_
  rintro e w9 ⟨rfl, hX9⟩
  go_wp2_with fail
  go_ret
  exact ⟨rfl, (hE5.trans' hX6).trans' hX9⟩
end Go.Proofs.Ytbejgbflipoboaa
