/- The chapter's examples; the law of kernels. -/
import Derived.Test.YtaidoaggmllcfaaLen
import Derived.Test.YtaidoaggmllcfaaT6
namespace Go.Proofs.Ytaidoaggmllcfaa
open Go.RowKit
attribute [local go_sem] GW.cell

theorem RetTE.open_ {T : TypeId} {t : Tbl} {err : Int} {w w' : World} {e : Ending} (h : RetTE T t err w e w') : ∃ a c, e = .returned (.tuple #[.slice a t.length c, .int .i64 err]) ∧ Table w' a t ∧ Ext w w' := by
  obtain ⟨v, rfl, hT, hE⟩ := h
  obtain ⟨a, c, rfl, hT2⟩ := hT.table
  exact ⟨a, c, rfl, hT2, hE⟩
/-- two rows of two numbers, written out -/
theorem table_new22 (w : World) (p q r s : Int) (T T2 : TypeId) (B1 B2 : Nat) (h1 : B1 = w.heap.size + 1) (h2 : B2 = w.heap.size + 1 + 1) :
    Table (((w.alloc (.cells #[.int .i64 p, .int .i64 q] T)).alloc (.cells #[.int .i64 r, .int .i64 s] T)).alloc (.cells #[.slice (some ⟨w.heap.size, 0, none⟩) 2 2, .slice (some ⟨B1, 0, none⟩) 2 2] T2)) (some ⟨B2, 0, none⟩) [[p, q], [r, s]] := by
  subst h1 h2
  have hE1 := ext_alloc (w.alloc (.cells #[.int .i64 p, .int .i64 q] T)) (.cells #[.int .i64 r, .int .i64 s] T)
  have hE2 := ext_alloc ((w.alloc (.cells #[.int .i64 p, .int .i64 q] T)).alloc (.cells #[.int .i64 r, .int .i64 s] T)) (.cells #[.slice (some ⟨w.heap.size, 0, none⟩) 2 2, .slice (some ⟨w.heap.size + 1, 0, none⟩) 2 2] T2)
  have hI0 := ((ints_new2 w p q T w.heap.size rfl).ext hE1).ext hE2
  have hI1 := (ints_new2 (w.alloc (.cells #[.int .i64 p, .int .i64 q] T)) r s T (w.heap.size + 1) (by simp)).ext hE2
  have hb := BlkC.new ((w.alloc (.cells #[.int .i64 p, .int .i64 q] T)).alloc (.cells #[.int .i64 r, .int .i64 s] T)) #[.slice (some ⟨w.heap.size, 0, none⟩) 2 2, .slice (some ⟨w.heap.size + 1, 0, none⟩) 2 2] T2
  simp only [World.size_alloc] at hb
  intro j hj
  match j, hj with
  | 0, _ => exact ⟨_, 0, _, 2, rfl, by simp, hb.cellv 0 rfl, hI0⟩
  | 1, _ => exact ⟨_, 0, _, 2, rfl, by simp, hb.cellv 1 rfl, hI1⟩
theorem table_ext3 (w : World) (a b c : Obj) : Ext w (((w.alloc a).alloc b).alloc c) := ((ext_alloc w a).trans' (ext_alloc _ b)).trans' (ext_alloc _ c)
theorem kn1 : kernelV [[1, 4], [2, 3]] 1 = [[2048, 256], [1024, 512]] := by kernel_rfl
theorem kn2 : kerErr [[1, 4], [2, 3]] 1 = 0 := by kernel_rfl
theorem kn3 : fitRowsV [[2048, 256], [1024, 512]] [2, 1] = [[1777, 222], [666, 333]] := by kernel_rfl
theorem kn4 : errOf (rowsOk [[2048, 256], [1024, 512]] [2, 1]) = 0 := by kernel_rfl
theorem small22 {p q r s : Int} : ∀ j, (hj : j < ([[p, q], [r, s]] : Tbl).length) → ([[p, q], [r, s]] : Tbl)[j].length ≤ 1000000 := fun j hj => by
  match j, hj with
  | 0, _ => simp
  | 1, _ => simp
theorem sameT_rfl (t : Tbl) : sameT t t = true := by simp [sameT]
abbrev w22 (w : World) (p q r s : Int) : World := ((w.alloc (.cells #[.int .i64 p, .int .i64 q] 3)).alloc (.cells #[.int .i64 r, .int .i64 s] 3)).alloc (.cells #[.slice (some ⟨w.heap.size, 0, none⟩) 2 2, .slice (some ⟨w.heap.size + 1, 0, none⟩) 2 2] 31)
theorem t22 (w : World) (p q r s : Int) : Table (w22 w p q r s) (some ⟨w.heap.size + 1 + 1, 0, none⟩) [[p, q], [r, s]] := table_new22 w p q r s 3 31 _ _ rfl rfl
theorem k15 (w : World) : Calls Try.prog 15 #[.slice (some ⟨w.heap.size + 1 + 1, 0, none⟩) 2 2, .int .i64 1] (w22 w 1 4 2 3) (RetTE 31 [[2048, 256], [1024, 512]] 0 (w22 w 1 4 2 3)) := by
  have h := f15_c _ 2 2 [[1, 4], [2, 3]] 1 _ (t22 w 1 4 2 3) rfl (by decide) small22
  rw [kn1, kn2] at h
  exact h
theorem k22 (w : World) (B : Nat) (hB : B = w.heap.size + 1 + 1 + 1) : Calls Try.prog 22 #[.slice (some ⟨w.heap.size + 1 + 1, 0, none⟩) 2 2, .slice (some ⟨B, 0, none⟩) 2 2] ((w22 w 2048 256 1024 512).alloc (.cells #[.int .i64 2, .int .i64 1] 3)) (RetTE 31 [[1777, 222], [666, 333]] 0 ((w22 w 2048 256 1024 512).alloc (.cells #[.int .i64 2, .int .i64 1] 3))) := by
  subst hB
  have h := f22_c _ (some ⟨w.heap.size + 1 + 1 + 1, 0, none⟩) 2 2 2 2 [[2048, 256], [1024, 512]] [2, 1] _ ((t22 w 2048 256 1024 512).ext (ext_alloc _ (.cells #[.int .i64 2, .int .i64 1] 3))) rfl (by decide) small22 (ints_new2 (w22 w 2048 256 1024 512) 2 1 3 _ (by simp)) rfl (by decide)
  rw [kn3, kn4] at h
  exact h
theorem k19 (w : World) (a : Option Addr) (c : Nat) (p q r s : Int) (h : Table w a [[p, q], [r, s]]) : Calls Try.prog 19 #[.slice a 2 c, .slice (some ⟨w.heap.size + 1 + 1, 0, none⟩) 2 2] (w22 w p q r s) fun e w' => e = .returned (.bool true) ∧ Ext w w' := by
  have hE := table_ext3 w (.cells #[.int .i64 p, .int .i64 q] 3) (.cells #[.int .i64 r, .int .i64 s] 3) (.cells #[.slice (some ⟨w.heap.size, 0, none⟩) 2 2, .slice (some ⟨w.heap.size + 1, 0, none⟩) 2 2] 31)
  have h := f19_c a _ 2 c 2 2 [[p, q], [r, s]] [[p, q], [r, s]] _ (h.ext hE) (t22 w p q r s) rfl rfl (by decide) (by decide) small22 small22
  rw [sameT_rfl] at h
  exact h.mono fun e w' ⟨h1, h2⟩ => ⟨h1, hE.trans' h2⟩
set_option maxRecDepth 20000 in
set_option maxHeartbeats 4000000 in
theorem f14_c (w : World) : Calls Try.prog 14 #[] w fun e w' => e = .returned (.bool true) ∧ Ext w w' := by
  go_enter Try.func14, Try.ntmps14
  go_wp2_with fail
  refine (k15 w).mono ?_
  rintro e w1 hR
  obtain ⟨a1, c1, rfl, hT1, hE1⟩ := hR.open_
  have hE1 := (table_ext3 _ _ _ _).trans' hE1
  have hl2 : ([[2048, 256], [1024, 512]] : Tbl).length = 2 := rfl
  rw [hl2]
  clear hl2 hR
  go_wp2_with fail
  refine (k22 w1 _ (by simp)).mono ?_
  rintro e w2 hR
  obtain ⟨a2, c2, rfl, hT2, hE2⟩ := hR.open_
  have hX2 := ((table_ext3 _ _ _ _).trans' (ext_alloc _ _)).trans' hE2
  have hT1 := hT1.ext hX2
  have hE2 := hE1.trans' hX2
  have hl2 : ([[1777, 222], [666, 333]] : Tbl).length = 2 := rfl
  rw [hl2]
  clear hX2 hE1 hl2 hR
  have hT1 := Lib.hid hT1
  have hT2 := Lib.hid hT2
  go_wp2_with fail
  refine (k19 w2 _ _ _ _ _ _ hT1.out).mono ?_
  rintro e w3 ⟨rfl, hX3⟩
  have hT2 := Lib.hid (hT2.out.ext hX3)
  have hE3 := hE2.trans' hX3
  clear hX3 hE2 hT1
  go_wp2_with fail
  refine (k19 w3 _ _ _ _ _ _ hT2.out).mono ?_
  rintro e w4 ⟨rfl, hX4⟩
  have hE4 := hE3.trans' hX4
  clear hX4 hT2
  go_wp2_with fail
  go_ret
  exact ⟨rfl, hE4⟩

end Go.Proofs.Ytaidoaggmllcfaa
