/- Contracts of roads: known. -/
import Derived.Test.YtbejgbflipoboaaT11
namespace Go.Proofs.Ytbejgbflipoboaa
open Go.RowKit
attribute [local go_sem] GW.cell
theorem ints_new3 (w : World) (x y z : Int) (T : TypeId) (B : Nat) (hB : w.heap.size = B) : Ints (w.alloc (.cells #[.int .i64 x, .int .i64 y, .int .i64 z] T)) (some ⟨B, 0, none⟩) [x, y, z] := by
  subst hB
  intro j hj
  refine ⟨_, _, rfl, by simp, ?_⟩
  match j, hj with
  | 0, _ => simp
  | 1, _ => simp
  | 2, _ => simp
theorem net1_cost : costTo net1 [2, 2, 1] net1.length = 9 := by decide
theorem net1_exc : excErr ((3 : Nat) : Int) net1 [3, 0, -3] = 0 := by decide
theorem x1_bd (i : Nat) : -1000 ≤ gi [3, 0, -3] i ∧ gi [3, 0, -3] i ≤ 1000 := by
  match i with
  | 0 => simp [gi]
  | 1 => simp [gi]
  | 2 => simp [gi]
  | i + 3 => simp [gi]
theorem least1 (b c : Nat) (o2 c2 b2 : Nat) (w : World) (hl : Roads w (some ⟨b, 0, none⟩) net1) (hx : Ints w (some ⟨b2, o2, none⟩) [3, 0, -3]) :
    Calls Try.prog 26 #[.agg #[.int .i64 3, .slice (some ⟨b, 0, none⟩) 3 c], .slice (some ⟨b2, o2, none⟩) 3 c2] w fun e w' => e = .returned (.tuple #[.int .i64 9, .bool true, .int .i64 0]) ∧ Ext w w' := by
  have h := f26_yes 3 10 (some ⟨b, 0, none⟩) 3 c net1 b2 o2 c2 [3, 0, -3] [2, 2, 1] [0, 0, 0] w hl rfl (netErr_ok net1_ok) hx rfl net1_ship (by omega) x1_bd net1_exc rfl (by decide)
  rw [net1_cost] at h
  exact h
theorem check1 (b c : Nat) (b1 o1 c1 b2 o2 c2 : Nat) (w : World) (hl : Roads w (some ⟨b, 0, none⟩) net1) (hy : Ints w (some ⟨b1, o1, none⟩) [3, 0, -3]) (hx : Ints w (some ⟨b2, o2, none⟩) [2, 2, 1]) :
    Calls Try.prog 20 #[.agg #[.int .i64 3, .slice (some ⟨b, 0, none⟩) 3 c], .slice (some ⟨b1, o1, none⟩) 3 c1, .slice (some ⟨b2, o2, none⟩) 3 c2] w fun e w' => e = .returned (.tuple #[.int .i64 9, .int .i64 0]) ∧ Ext w w' := by
  have h := f20_c 3 (some ⟨b, 0, none⟩) 3 c net1 (some ⟨b1, o1, none⟩) 3 c1 [3, 0, -3] (some ⟨b2, o2, none⟩) 3 c2 [2, 2, 1] w hl rfl (by omega) hy rfl (by omega) hx rfl (by omega)
  rw [net1_flow.1, net1_flow.2] at h
  exact h
set_option maxHeartbeats 4000000 in
theorem f19_c (w : World) : Calls Try.prog 19 #[] w fun e w' => e = .returned (.bool true) ∧ Ext w w' := by
  go_enter Try.func19, Try.ntmps19
  go_wp2_with fail
  refine (f56_c _).mono ?_
  rintro e w1 ⟨b, c, rfl, hR1, hX1⟩
  have hA := ints_new3 w1 3 0 (-3) 3 w1.heap.size rfl
  have C1 := Lib.hid (least1 b c 0 3 w1.heap.size _ (hR1.ext (ext_alloc _ _)) hA)
  have hY1 := hX1.trans' (ext_alloc w1 (.cells #[.int .i64 3, .int .i64 0, .int .i64 (-3)] 3))
  clear hA
  go_wp2_with fail
  refine C1.out.mono ?_
  clear C1
  rintro e w2 ⟨rfl, hX2⟩
  have hY2 := hY1.trans' hX2
  go_wp2_with fail
  refine (f56_c _).mono ?_
  rintro e w3 ⟨b3, c3, rfl, hR3, hX3⟩
  have hA := (ints_new3 w3 3 0 (-3) 3 w3.heap.size rfl).ext (ext_alloc _ (.cells #[.int .i64 2, .int .i64 2, .int .i64 1] 3))
  have hB := ints_new3 (w3.alloc (.cells #[.int .i64 3, .int .i64 0, .int .i64 (-3)] 3)) 2 2 1 3 (w3.heap.size + 1) (by simp)
  have C1 := Lib.hid (check1 b3 c3 w3.heap.size 0 3 (w3.heap.size + 1) 0 3 _ (hR3.ext ((ext_alloc _ _).trans' (ext_alloc _ _))) hA hB)
  have hY3 := (hY2.trans' hX3).trans' ((ext_alloc w3 (.cells #[.int .i64 3, .int .i64 0, .int .i64 (-3)] 3)).trans' (ext_alloc _ (.cells #[.int .i64 2, .int .i64 2, .int .i64 1] 3)))
  clear hA hB
  go_wp2_with fail
  refine C1.out.mono ?_
  clear C1
  rintro e w4 ⟨rfl, hX4⟩
  go_wp2_with fail
  go_ret
  exact ⟨rfl, hY3.trans' hX4⟩
end Go.Proofs.Ytbejgbflipoboaa
