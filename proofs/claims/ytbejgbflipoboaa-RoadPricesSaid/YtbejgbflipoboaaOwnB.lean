/- A list of bools, told; in a block of the call's own. -/
import Derived.Test.YtbejgbflipoboaaOwnG
namespace Go.Proofs.Ytbejgbflipoboaa
open Go.RowKit

/-- The slice address a leads to the bools l. -/
def Bools (w : World) (a : Option Addr) (l : List Bool) : Prop :=
  ∀ j, j < l.length → ∃ b off, a = some ⟨b, off, none⟩ ∧ b < w.heap.size ∧ w.cell? ⟨b, off + j, none⟩ = some (.bool (l[j]?.getD false))
theorem Bools.ext {w w' : World} {a : Option Addr} {l : List Bool} (h : Bools w a l) (hE : Ext w w') : Bools w' a l := fun j hj => by
  obtain ⟨b, off, ha, hb, hc⟩ := h j hj
  exact ⟨b, off, ha, Nat.lt_of_lt_of_le hb hE.size, (hE.cell' hb).trans hc⟩
def gb (l : List Bool) (i : Nat) : Bool := l[i]?.getD false
theorem gb_set (l : List Bool) (i j : Nat) (v : Bool) (hi : i < l.length) : gb (l.set i v) j = if i = j then v else gb l j := by
  unfold gb
  rw [List.getElem?_set]
  by_cases h : i = j
  · subst h; simp [hi]
  · simp [h]
/-- a list of bools that lies in the block g, made since the world had the size B -/
def OwnB (W : World) (B g n : Nat) (l : List Bool) : Prop := W.ownsRow B 4 1 (.slice (some ⟨g, 0, none⟩) n n) n (l.map .bool)
section
variable {W X : World} {B g n : Nat} {l : List Bool}
theorem OwnB.len (h : OwnB W B g n l) : l.length = n := by have := h.1; simp at this; omega
theorem OwnB.slot (h : OwnB W B g n l) : g < W.heap.size ∧ B ≤ g := by
  rcases h.2 with ⟨e, _⟩ | ⟨g', cap', cur, e, hb, hg, h1, _⟩
  · simp at e
  · simp at e
    obtain ⟨rfl, rfl⟩ := e
    exact ⟨(Array.getElem?_eq_some_iff.1 hg).1, hb⟩
theorem OwnB.cell {i : Nat} (h : OwnB W B g n l) (hi : i < l.length) : W.cell? ⟨g, i, none⟩ = some (.bool (l[i]?.getD false)) := by
  refine (World.ownsRow.cellAt h i (by have := h.len; omega)).trans ?_
  rw [List.getElem?_map]; simp [hi]
theorem OwnB.store (h : OwnB W B g n l) (i : Nat) (v : Bool) : OwnB (W.setCell ⟨g, i, none⟩ (.bool v)) B g n (l.set i v) := by
  have hst := (World.ownsRow.stored h i (.bool v)).1
  rw [← List.map_set] at hst
  exact hst
theorem OwnB.ext (h : OwnB W B g n l) (hE : Ext W X) : OwnB X B g n l := row_ext h hE
theorem OwnB.froz (h : OwnB W B g n l) (i : Nat) : W.frozen? ⟨g, i, none⟩ = false := World.ownsRow.frozenAt h i
theorem OwnB.bools (h : OwnB W B g n l) : Bools W (some ⟨g, 0, none⟩) l := fun j hj => ⟨g, 0, rfl, h.slot.1, by rw [Nat.zero_add]; exact h.cell hj⟩
end
end Go.Proofs.Ytbejgbflipoboaa
