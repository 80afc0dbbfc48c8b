/- The example that every law of layer 5 looks at: known is true. -/
import Derived.Test.YtodlbgncdggimaaT10
namespace Go.Proofs.Ytodlbgncdggimaa
open Go.RowKit
attribute [local go_sem] GW.cell

theorem sites_new2 (w : World) (s t : Site) (T : TypeId) (B : Nat) (hB : w.heap.size = B) : Sites (w.alloc (.cells #[.int .i64 s.x, .int .i64 s.y, .int .i64 s.w, .int .i64 t.x, .int .i64 t.y, .int .i64 t.w] T)) (some ⟨B, 0, none⟩) [s, t] := by
  subst hB
  intro j hj
  refine ⟨_, _, rfl, by simp, ?_⟩
  match j, hj with
  | 0, _ => simp
  | 1, _ => simp

theorem ints_new4 (w : World) (x y z u : Int) (T : TypeId) (B : Nat) (hB : w.heap.size = B) : Ints (w.alloc (.cells #[.int .i64 x, .int .i64 y, .int .i64 z, .int .i64 u] T)) (some ⟨B, 0, none⟩) [x, y, z, u] := by
  subst hB
  intro j hj
  refine ⟨_, _, rfl, by simp, ?_⟩
  match j, hj with
  | 0, _ => simp
  | 1, _ => simp
  | 2, _ => simp
  | 3, _ => simp

theorem known1 : cellsL [⟨0, 0, 0⟩, ⟨3, 0, 3⟩] 4 1 = [0, 0, 1, 1] := by decide +kernel
theorem known2 : errOf (okField [⟨0, 0, 0⟩, ⟨3, 0, 3⟩] 4 1) = 0 := by decide +kernel
theorem known3 : weightsL [0, 10] [3, 7] 0 = [0, 40] := by decide +kernel
theorem known4 : errOf (okW [0, 10] [3, 7] 0) = 0 := by decide +kernel

set_option maxHeartbeats 2000000 in
theorem f17_c (w : World) : Calls Try.prog 17 #[] w fun e w' => e = .returned (.bool true) ∧ Ext w w' := by
  have c1 := fun (a : Option Addr) (w : World) (h : Sites w a [⟨0, 0, 0⟩, ⟨3, 0, 3⟩]) => f18_c a 2 2 [⟨0, 0, 0⟩, ⟨3, 0, 3⟩] 4 1 w h rfl (by omega)
  have c2 := fun (a b : Option Addr) (w : World) (h : Ints w a [0, 10]) (k : Ints w b [3, 7]) => f46_c a b 2 2 2 2 [0, 10] [3, 7] 0 w h k rfl rfl (by omega) (by omega)
  rw [known1, known2] at c1
  rw [known3, known4] at c2
  have C1 := Lib.hid c1
  have C2 := Lib.hid c2
  clear c1 c2
  go_enter Try.func17, Try.ntmps17
  go_wp2_with fail
  refine (C1.out _ _ (sites_new2 w ⟨0, 0, 0⟩ ⟨3, 0, 3⟩ _ _ rfl)).mono ?_
  rintro e w1 ⟨a1, d1, rfl, hI1, hE1⟩
  go_wp2_with fail
  have hs1 := ints_new2 w1 0 10 3 _ rfl
  have hs2 := ints_new2 (w1.alloc (.cells #[.int .i64 0, .int .i64 10] 3)) 3 7 3 (w1.heap.size + 1) (by simp)
  refine (C2.out _ _ _ (hs1.ext (ext_alloc _ _)) hs2).mono ?_
  rintro e w2 ⟨a2, d2, rfl, hI2, hE2⟩
  have hE3 : Ext w1 w2 := (ext_alloc _ _).trans' ((ext_alloc _ _).trans' hE2)
  go_wp2_with fail
  refine (f19_c a1 _ 4 4 d1 4 [0, 0, 1, 1] [0, 0, 1, 1] _ ((hI1.ext hE3).ext (ext_alloc _ _)) (ints_new4 w2 0 0 1 1 3 _ rfl) rfl rfl (by omega) (by omega)).mono ?_
  rintro e w3 ⟨rfl, hE4⟩
  have hE5 : Ext w2 w3 := (ext_alloc _ _).trans' hE4
  have d1 : decide (([0, 0, 1, 1] : List Int) = [0, 0, 1, 1]) = true := by decide
  rw [d1]
  clear d1
  go_wp2_with fail
  refine (f19_c a2 _ 2 2 d2 2 [0, 40] [0, 40] _ ((hI2.ext hE5).ext (ext_alloc _ _)) (ints_new2 w3 0 40 3 _ rfl) rfl rfl (by omega) (by omega)).mono ?_
  rintro e w4 ⟨rfl, hE6⟩
  have d2 : decide (([0, 40] : List Int) = [0, 40]) = true := by decide
  rw [d2]
  clear d2
  go_wp2_with fail
  go_ret
  exact ⟨rfl, (ext_alloc _ _).trans' (hE1.trans' (hE3.trans' (hE5.trans' ((ext_alloc _ _).trans' hE6))))⟩
end Go.Proofs.Ytodlbgncdggimaa
