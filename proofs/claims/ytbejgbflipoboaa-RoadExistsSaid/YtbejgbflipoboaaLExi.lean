/- RoadExists: the law's walk. -/
import Derived.Test.YtbejgbflipoboaaT15
namespace Go.Proofs.Ytbejgbflipoboaa
open Go.RowKit
attribute [local go_sem] GW.cell
set_option maxRecDepth 20000 in
set_option maxHeartbeats 8000000 in
theorem lawExi (w : World) (N : Int) (a : Option Addr) (n c : Nat) (R : List Road) (hl : Roads w a R) (hn : R.length = n) (a1 : Option Addr) (n1 c1 : Nat) (y : List Int) (hy : Ints w a1 y) (hn1 : y.length = n1) :
    Calls Try.prog 5 #[.agg #[.int .i64 N, .slice a n c, .slice a1 n1 c1]] w fun e w' => e = .returned (.bool true) ∧ Ext w w' := by
  subst hn hn1
  have hE0 := ext_alloc w (.cells #[.int .i64 N, .slice a R.length c, .slice a1 y.length c1] 27)
  have HB := Lib.hid (BlkC.new w #[.int .i64 N, .slice a R.length c, .slice a1 y.length c1] 27)
  have hz1 := HB.out.lt
  have g0 := HB.out.cellv 0 (v := .int .i64 N) rfl
  have g1 := HB.out.cellv 1 (v := .slice a R.length c) rfl
  have g2 := HB.out.cellv 2 (v := .slice a1 y.length c1) rfl
  go_enter Try.func5, Try.ntmps5
  go_wp2_with fail
  generalize (w.alloc (.cells #[.int .i64 N, .slice a R.length c, .slice a1 y.length c1] 27)) = w0 at *
  refine (f17_c N a R.length c a1 y.length c1 _).mono ?_
  rintro e w1 ⟨rfl, hX1⟩
  have hE1 := hE0.trans' hX1
  rcases Bool.eq_false_or_eq_true (decide (60 < (R.length : Int)) || decide (60 < (y.length : Int))) with h1 | h1
  · rw [h1]
    go_wp2_with fail
    refine (f19_c _).mono ?_
    rintro e w9 ⟨rfl, hX9⟩
    go_wp2_with fail
    go_ret
    exact ⟨rfl, hE1.trans' hX9⟩
  rw [h1]
  rw [Bool.or_eq_false_iff] at h1
  have h2 := of_decide_eq_false h1.1
  have h3 := of_decide_eq_false h1.2
  clear h1
  clear g0 g1 g2 hz1
  have g0 := (HB.out.ext hX1).cellv 0 (v := .int .i64 N) rfl
  have g1 := (HB.out.ext hX1).cellv 1 (v := .slice a R.length c) rfl
  have g2 := (HB.out.ext hX1).cellv 2 (v := .slice a1 y.length c1) rfl
  have hz1 := (HB.out.ext hX1).lt
  go_wp2_with fail
  refine (f29_c N a R.length c R a1 y.length c1 y _ (hl.ext hE1) rfl (by omega) (hy.ext hE1) rfl (by omega)).mono ?_
  rintro e w2 ⟨rfl, hX2⟩
  have hE2 := hE1.trans' hX2
  have hY2 := hX1.trans' hX2
  clear g0 g1 g2 hz1
  have g0 := (HB.out.ext hY2).cellv 0 (v := .int .i64 N) rfl
  have g1 := (HB.out.ext hY2).cellv 1 (v := .slice a R.length c) rfl
  have g2 := (HB.out.ext hY2).cellv 2 (v := .slice a1 y.length c1) rfl
  have hz1 := (HB.out.ext hY2).lt
  go_wp2_with fail
  refine (f30_c N a R.length c R a1 y.length c1 y _ (hl.ext hE2) rfl (by omega) (hy.ext hE2) rfl (by omega)).mono ?_
  rintro e w3 ⟨rfl, hX3⟩
  have hE3 := hE2.trans' hX3
  generalize okF N R y = b at *
  generalize excErr N R y = E at *
  have q1 : (b == b) = true := by simp
  have q2 : (E == E) = true := by simp
  go_wp2_with fail
  refine (f19_c _).mono ?_
  rintro e w9 ⟨rfl, hX9⟩
  go_wp2_with fail
  go_ret
  exact ⟨rfl, hE3.trans' hX9⟩
end Go.Proofs.Ytbejgbflipoboaa
