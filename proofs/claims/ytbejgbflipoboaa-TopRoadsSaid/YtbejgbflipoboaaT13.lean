/- Contracts of roads: large. -/
import Derived.Test.YtbejgbflipoboaaT12
namespace Go.Proofs.Ytbejgbflipoboaa
open Go.RowKit
attribute [local go_sem] GW.cell
theorem f17_c (N : Int) (a : Option Addr) (n c : Nat) (a1 : Option Addr) (n1 c1 : Nat) (w : World) :
    Calls Try.prog 17 #[.agg #[.int .i64 N, .slice a n c, .slice a1 n1 c1]] w fun e w' => e = .returned (.bool (decide (60 < (n : Int)) || decide (60 < (n1 : Int)))) ∧ Ext w w' := by
  go_enter Try.func17, Try.ntmps17
  go_wp2_with fail
  refine (f31_c N a n c _).mono ?_
  rintro e w1 ⟨rfl, hX1⟩
  have hE1 := (ext_alloc w (.cells #[.int .i64 N, .slice a n c, .slice a1 n1 c1] 27)).trans' hX1
  have HB := (BlkC.new w #[.int .i64 N, .slice a n c, .slice a1 n1 c1] 27).ext hX1
  have g2 := HB.cellv 2 (v := .slice a1 n1 c1) rfl
  have hz := HB.lt
  rcases Bool.eq_false_or_eq_true (decide ((60 : Int) < (n : Int))) with h1 | h1
  · rw [h1]
    go_wp2_with fail
    go_ret
    exact ⟨ret_bool (by rw [h1]; simp), hE1⟩
  · rw [h1]
    go_wp2_with fail
    refine (f18_c a1 n1 c1 _).mono ?_
    rintro e w2 ⟨rfl, rfl⟩
    go_wp2_with fail
    go_ret
    exact ⟨ret_bool (by rw [h1]; simp), hE1⟩
end Go.Proofs.Ytbejgbflipoboaa
