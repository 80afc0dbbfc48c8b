/- A block of four numbers, stored into. -/
import Derived.Test.YtodlbgncdggimaaP6
namespace Go.Proofs.Ytodlbgncdggimaa
open Go.RowKit

/-- a block of four values -/
def Quad (W : World) (B : Nat) (T : TypeId) (a b c d : Value) : Prop := Blk W B (.cells #[a, b, c, d] T)
section
variable {X Y : World} {B : Nat} {T : TypeId} {a b c d : Value}
theorem Quad.new (W : World) (T : TypeId) (a b c d : Value) : Quad (W.alloc (.cells #[a, b, c, d] T)) W.heap.size T a b c d := World.alloc_heap_new W _
theorem Quad.cell0 (h : Quad X B T a b c d) : X.cell? ⟨B, 0, none⟩ = some a := by simp [World.cell?, show X.heap[B]? = _ from h]
theorem Quad.cell1 (h : Quad X B T a b c d) : X.cell? ⟨B, 1, none⟩ = some b := by simp [World.cell?, show X.heap[B]? = _ from h]
theorem Quad.cell2 (h : Quad X B T a b c d) : X.cell? ⟨B, 2, none⟩ = some c := by simp [World.cell?, show X.heap[B]? = _ from h]
theorem Quad.cell3 (h : Quad X B T a b c d) : X.cell? ⟨B, 3, none⟩ = some d := by simp [World.cell?, show X.heap[B]? = _ from h]
theorem Quad.frozen (h : Quad X B T a b c d) (j : Nat) : X.frozen? ⟨B, j, none⟩ = false := by simp [World.frozen?, show X.heap[B]? = _ from h]
theorem Quad.set0 (h : Quad X B T a b c d) (u : Value) : Quad (X.setCell ⟨B, 0, none⟩ u) B T u b c d := by
  obtain ⟨hlt, hk⟩ := Array.getElem?_eq_some_iff.1 (show X.heap[B]? = some (.cells #[a, b, c, d] T) from h)
  show (X.heap.modify B _)[B]? = _
  rw [Array.getElem?_eq_getElem (by rw [Array.size_modify]; exact hlt), Array.getElem_modify_self, hk]
  rfl
theorem Quad.set1 (h : Quad X B T a b c d) (u : Value) : Quad (X.setCell ⟨B, 1, none⟩ u) B T a u c d := by
  obtain ⟨hlt, hk⟩ := Array.getElem?_eq_some_iff.1 (show X.heap[B]? = some (.cells #[a, b, c, d] T) from h)
  show (X.heap.modify B _)[B]? = _
  rw [Array.getElem?_eq_getElem (by rw [Array.size_modify]; exact hlt), Array.getElem_modify_self, hk]
  rfl
theorem Quad.set2 (h : Quad X B T a b c d) (u : Value) : Quad (X.setCell ⟨B, 2, none⟩ u) B T a b u d := by
  obtain ⟨hlt, hk⟩ := Array.getElem?_eq_some_iff.1 (show X.heap[B]? = some (.cells #[a, b, c, d] T) from h)
  show (X.heap.modify B _)[B]? = _
  rw [Array.getElem?_eq_getElem (by rw [Array.size_modify]; exact hlt), Array.getElem_modify_self, hk]
  rfl
theorem Quad.set3 (h : Quad X B T a b c d) (u : Value) : Quad (X.setCell ⟨B, 3, none⟩ u) B T a b c u := by
  obtain ⟨hlt, hk⟩ := Array.getElem?_eq_some_iff.1 (show X.heap[B]? = some (.cells #[a, b, c, d] T) from h)
  show (X.heap.modify B _)[B]? = _
  rw [Array.getElem?_eq_getElem (by rw [Array.size_modify]; exact hlt), Array.getElem_modify_self, hk]
  rfl
end
end Go.Proofs.Ytodlbgncdggimaa
