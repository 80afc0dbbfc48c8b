/- CellPowers: the law's walk. -/
import Derived.Test.YtodlbgncdggimaaT12
namespace Go.Proofs.Ytodlbgncdggimaa
open Go.RowKit
attribute [local go_sem] GW.cell

set_option maxHeartbeats 2000000 in
theorem lawPowers (w : World) (a : Option Addr) (n c : Nat) (l : List Site) (hl : Sites w a l) (hn : l.length = n) (i x y : Int) :
    Calls Try.prog 4 #[.slice a n c, .agg #[.int .i64 i, .int .i64 x, .int .i64 y]] w fun e w' => e = .returned (.bool true) ∧ Ext w w' := by
  by_cases h40 : 40 < n
  · have hd : decide (40 < (n : Int)) = true := by simp; omega
    go_enter Try.func4, Try.ntmps4
    go_wp2_with fail
    refine (f17_c _).mono ?_
    rintro e w1 ⟨rfl, hE⟩
    go_wp2_with fail
    go_ret
    exact ⟨rfl, (ext_alloc _ _).trans' hE⟩
  · have hlen : n ≤ 140737488355328 := by omega
    have hd : decide (40 < (n : Int)) = false := by simp; omega
    go_enter Try.func4, Try.ntmps4
    go_wp2_with fail
    have hl1 := hl.ext (ext_alloc w (.cells #[.int .i64 i, .int .i64 x, .int .i64 y] 35))
    refine (f20_c a n c l i x y _ hl1 hn hlen).mono ?_
    rintro e w1 ⟨rfl, hE1⟩
    have k0 : w1.cell? ⟨w.heap.size, 0, none⟩ = some (.int .i64 i) := (hE1.cell' (by simp)).trans (by simp)
    have k1 : w1.cell? ⟨w.heap.size, 1, none⟩ = some (.int .i64 x) := (hE1.cell' (by simp)).trans (by simp)
    have k2 : w1.cell? ⟨w.heap.size, 2, none⟩ = some (.int .i64 y) := (hE1.cell' (by simp)).trans (by simp)
    go_wp2_with fail
    refine (f21_c a n c l i x y _ (hl1.ext hE1) hn hlen).mono ?_
    rintro e w2 ⟨rfl, hE2⟩
    go_wp2_with fail
    refine (f22_c a n c l w2 ((hl1.ext hE1).ext hE2) hn hlen).mono ?_
    rintro e w3 ⟨rfl, hE3⟩
    go_wp2_with fail
    refine (f23_c a n c l w3 (((hl1.ext hE1).ext hE2).ext hE3) hn hlen).mono ?_
    rintro e w4 ⟨rfl, rfl⟩
    go_wp2_with fail
    refine (f17_c _).mono ?_
    rintro e w5 ⟨rfl, hE5⟩
    go_wp2_with fail
    go_ret
    exact ⟨rfl, (ext_alloc _ _).trans' (hE1.trans' (hE2.trans' (hE3.trans' hE5)))⟩
end Go.Proofs.Ytodlbgncdggimaa
