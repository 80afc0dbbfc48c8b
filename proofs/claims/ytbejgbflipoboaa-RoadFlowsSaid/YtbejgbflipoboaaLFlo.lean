/- RoadFlows: the law's walk. -/
import Derived.Test.YtbejgbflipoboaaT13
namespace Go.Proofs.Ytbejgbflipoboaa
open Go.RowKit
attribute [local go_sem] GW.cell
set_option maxRecDepth 20000 in
set_option maxHeartbeats 8000000 in
theorem lawFlo (w : World) (N : Int) (a : Option Addr) (n c : Nat) (R : List Road) (hl : Roads w a R) (hn : R.length = n) (a1 : Option Addr) (n1 c1 : Nat) (y : List Int) (hy : Ints w a1 y) (hn1 : y.length = n1) (a2 : Option Addr) (n2 c2 : Nat) (x : List Int) (hx : Ints w a2 x) (hn2 : x.length = n2) :
    Calls Try.prog 3 #[.agg #[.int .i64 N, .slice a n c, .slice a1 n1 c1], .slice a2 n2 c2] w fun e w' => e = .returned (.bool true) ∧ Ext w w' := by
  subst hn hn1 hn2
  have hE0 := ext_alloc w (.cells #[.int .i64 N, .slice a R.length c, .slice a1 y.length c1] 27)
  have HB := Lib.hid (BlkC.new w #[.int .i64 N, .slice a R.length c, .slice a1 y.length c1] 27)
  have hz1 := HB.out.lt
  have g0 := HB.out.cellv 0 (v := .int .i64 N) rfl
  have g1 := HB.out.cellv 1 (v := .slice a R.length c) rfl
  have g2 := HB.out.cellv 2 (v := .slice a1 y.length c1) rfl
  go_enter Try.func3, Try.ntmps3
  go_wp2_with fail
  generalize (w.alloc (.cells #[.int .i64 N, .slice a R.length c, .slice a1 y.length c1] 27)) = w0 at *
  refine (f17_c N a R.length c a1 y.length c1 _).mono ?_
  rintro e w1 ⟨rfl, hX1⟩
  have hE1 := hE0.trans' hX1
  rcases Bool.eq_false_or_eq_true (decide (60 < (R.length : Int)) || decide (60 < (y.length : Int))) with h1 | h1
  · rw [h1]
    go_wp2_with fail
    refine (f19_c _).mono ?_
    rintro e w9 ⟨rfl, hX9⟩
    go_wp2_with fail
    go_ret
    exact ⟨rfl, hE1.trans' hX9⟩
  rw [h1]
  rw [Bool.or_eq_false_iff] at h1
  have h2 := of_decide_eq_false h1.1
  have h3 := of_decide_eq_false h1.2
  clear h1
  clear g0 g1 g2 hz1
  have g0 := (HB.out.ext hX1).cellv 0 (v := .int .i64 N) rfl
  have g1 := (HB.out.ext hX1).cellv 1 (v := .slice a R.length c) rfl
  have g2 := (HB.out.ext hX1).cellv 2 (v := .slice a1 y.length c1) rfl
  have hz1 := (HB.out.ext hX1).lt
  go_wp2_with fail
  refine (f18_c a2 x.length c2 _).mono ?_
  rintro e w8 ⟨rfl, rfl⟩
  by_cases h4 : 60 < x.length
  · rw [decide_eq_true (show (60 : Int) < (x.length : Int) by omega)]
    go_wp2_with fail
    refine (f19_c _).mono ?_
    rintro e w9 ⟨rfl, hX9⟩
    go_wp2_with fail
    go_ret
    exact ⟨rfl, hE1.trans' hX9⟩
  rw [decide_eq_false (show ¬ (60 : Int) < (x.length : Int) by omega)]
  go_wp2_with fail
  refine (f20_c N a R.length c R a1 y.length c1 y a2 x.length c2 x _ (hl.ext hE1) rfl (by omega) (hy.ext hE1) rfl (by omega) (hx.ext hE1) rfl (by omega)).mono ?_
  rintro e w2 ⟨rfl, hX2⟩
  have hE2 := hE1.trans' hX2
  have hY2 := hX1.trans' hX2
  clear g0 g1 g2 hz1
  have g0 := (HB.out.ext hY2).cellv 0 (v := .int .i64 N) rfl
  have g1 := (HB.out.ext hY2).cellv 1 (v := .slice a R.length c) rfl
  have g2 := (HB.out.ext hY2).cellv 2 (v := .slice a1 y.length c1) rfl
  have hz1 := (HB.out.ext hY2).lt
  go_wp2_with fail
  refine (f21_c N a R.length c R a1 y.length c1 y a2 x.length c2 x _ (hl.ext hE2) rfl (by omega) (hy.ext hE2) rfl (by omega) (hx.ext hE2) rfl (by omega)).mono ?_
  rintro e w3 ⟨rfl, hX3⟩
  have hE3 := hE2.trans' hX3
  have hY3 := hY2.trans' hX3
  clear g0 g1 g2 hz1
  have g0 := (HB.out.ext hY3).cellv 0 (v := .int .i64 N) rfl
  have g1 := (HB.out.ext hY3).cellv 1 (v := .slice a R.length c) rfl
  have g2 := (HB.out.ext hY3).cellv 2 (v := .slice a1 y.length c1) rfl
  have hz1 := (HB.out.ext hY3).lt
  have C22 := Lib.hid (fun x' : GW w3 => f22_c N a R.length c R x'.world (hl.ext (hE3.trans' x'.ext)) rfl (by omega))
  have C23 := Lib.hid (fun x' : GW w3 => f23_c N a R.length c R x'.world (hl.ext (hE3.trans' x'.ext)) rfl (by omega))
  have C24 := Lib.hid (fun x' : GW w3 => f24_c N a R.length c R a1 y.length c1 y x'.world (hl.ext (hE3.trans' x'.ext)) rfl (by omega) (hy.ext (hE3.trans' x'.ext)) rfl (by omega))
  have C25 := Lib.hid (fun x' : GW w3 => f25_c N a R.length c R a1 y.length c1 y x'.world (hl.ext (hE3.trans' x'.ext)) rfl (by omega) (hy.ext (hE3.trans' x'.ext)) rfl (by omega))
  generalize flowV N R y x = V at *
  generalize flowErr N R y x = E1 at *
  generalize netErr N R = E2 at *
  generalize excErr N R y = E3 at *
  have q1 : (V == V) = true := by simp
  have q2 : (E1 == E1) = true := by simp
  have q3 : (E2 == E2) = true := by simp
  have q4 : (E3 == E3) = true := by simp
  go_wp2_with fail
  refine wp_region_ext (by kernel_rfl) (by kernel_rfl) ?_
  repeat (go_big_quiet_step (first | (go_at_call 22; exact quiet_ext (C22.out _)) | (go_at_call 23; exact quiet_ext (C23.out _)) | (go_at_call 24; exact quiet_ext (C24.out _)) | (go_at_call 25; exact quiet_ext (C25.out _)) | (go_at_call 19; exact quiet_ext (f19_c _))))
  refine wpQuiet_nil ?_
  intro w4 hX4
  go_wp2_with fail
  go_ret
  exact ⟨rfl, hE3.trans' hX4⟩
end Go.Proofs.Ytbejgbflipoboaa
