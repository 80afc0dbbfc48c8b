/- A block whose cells are all known. -/
import Derived.Test.YtfhgnmijigdlmaaRecs
namespace Go.Proofs.Ytfhgnmijigdlmaa
open Go.RowKit

/-- block B holds just the cells cs -/
def BlkC (W : World) (B : Nat) (cs : Array Value) (T : TypeId) : Prop := W.heap[B]? = some (.cells cs T (0, 0))
section
variable {W X Y : World} {B : Nat} {T : TypeId} {cs : Array Value}
theorem BlkC.new (W : World) (cs : Array Value) (T : TypeId) : BlkC (W.alloc (.cells cs T)) W.heap.size cs T := World.alloc_heap_new W _
theorem BlkC.lt (h : BlkC X B cs T) : B < X.heap.size := (Array.getElem?_eq_some_iff.1 h).1
theorem BlkC.cell (h : BlkC X B cs T) (i : Nat) : X.cell? ⟨B, i, none⟩ = cs[i]? := by simp [World.cell?, show X.heap[B]? = _ from h]
theorem BlkC.cellv (h : BlkC X B cs T) (i : Nat) {v : Value} (hv : cs[i]? = some v) : X.cell? ⟨B, i, none⟩ = some v := (h.cell i).trans hv
theorem BlkC.frozen (h : BlkC X B cs T) (j : Nat) : X.frozen? ⟨B, j, none⟩ = false := by simp [World.frozen?, show X.heap[B]? = _ from h]
theorem BlkC.set (h : BlkC X B cs T) (i : Nat) (u : Value) : BlkC (X.setCell ⟨B, i, none⟩ u) B (cs.setIfInBounds i u) T := by
  obtain ⟨hlt, hk⟩ := Array.getElem?_eq_some_iff.1 (show X.heap[B]? = some (.cells cs T (0, 0)) from h)
  show (X.heap.modify B _)[B]? = _
  rw [Array.getElem?_eq_getElem (by rw [Array.size_modify]; exact hlt), Array.getElem_modify_self, hk]
  rfl
theorem BlkC.other (h : BlkC X B cs T) {B' : Nat} (hne : B ≠ B') (i : Nat) (u : Value) : BlkC (X.setCell ⟨B', i, none⟩ u) B cs T := (Below.heap_setCell X ⟨B', i, none⟩ u B hne).trans h
theorem BlkC.ext (h : BlkC X B cs T) (hE : Ext X Y) : BlkC Y B cs T := (hE.block B h.lt).trans h
theorem BlkC.alloc (h : BlkC X B cs T) (o : Obj) : BlkC (X.alloc o) B cs T := h.ext (ext_alloc X o)
theorem BlkC.grown (h : BlkC X B cs T) {row : Option Nat} (hg : X.grownBy Y row) (hne : some B ≠ row) : BlkC Y B cs T := (hg.block B h.lt hne).trans h
theorem BlkC.appended (h : BlkC X B cs T) {v : Value} {tmp : Obj} (hg : (X.alloc tmp).grownBy Y v.ownBlock) (hne : some B ≠ v.ownBlock) : BlkC Y B cs T := (h.alloc tmp).grown hg hne
theorem row_notnew {base : Nat} {e : TypeId} {size : Nat} {v : Value} {k : Nat} {xs : List Value} (h : X.ownsRow base e size v k xs) : some X.heap.size ≠ v.ownBlock := by
  rcases h.2 with ⟨rfl, _⟩ | ⟨g, cap, cur, rfl, hb, hg, _⟩
  · simp [Value.ownBlock]
  · intro e'
    have hlt := (Array.getElem?_eq_some_iff.1 hg).1
    have : X.heap.size = g := by simpa [Value.ownBlock] using e'
    omega
/-- behind 'out = append(out, ..)': the row's block is the old one or a new one -/
theorem far_keeps {v v' : Value} {B : Nat} (h : some B ≠ v.ownBlock) (hB : B < X.heap.size) (hat : v'.ownBlock = v.ownBlock ∨ v'.ownBlock = some X.heap.size) : some B ≠ v'.ownBlock := by
  rcases hat with e | e
  · rw [e]; exact h
  · rw [e]; intro e2; simp at e2; omega
theorem row_set_other {base : Nat} {e : TypeId} {size : Nat} {v : Value} {k : Nat} {xs : List Value} (h : X.ownsRow base e size v k xs) {B : Nat} (hne : some B ≠ v.ownBlock) (i : Nat) (u : Value) : (X.setCell ⟨B, i, none⟩ u).ownsRow base e size v k xs := by
  refine ⟨h.1, ?_⟩
  rcases h.2 with h0 | ⟨g, cap, cur, rfl, hb, hg, h1, h2, h3⟩
  · exact .inl h0
  · refine .inr ⟨g, cap, cur, rfl, hb, ?_, h1, h2, h3⟩
    have hn : g ≠ B := fun e' => hne (by rw [e']; rfl)
    exact (Below.heap_setCell X ⟨B, i, none⟩ u g hn).trans hg
/-- what a call hands back that makes a list -/
def RetI (L : List Int) (w : World) (e : Ending) (w' : World) : Prop := ∃ a c, e = .returned (.slice a L.length c) ∧ Ints w' a L ∧ Ext w w'
/-- .. a list and an error -/
def RetInts (L : List Int) (err : Int) (w : World) (e : Ending) (w' : World) : Prop := ∃ a c, e = .returned (.tuple #[.slice a L.length c, .int .i64 err]) ∧ Ints w' a L ∧ Ext w w'
theorem retInts_nil {w w' : World} {e : Int} (hE : Ext w w') : RetInts [] e w (.returned (.tuple #[.slice none 0 0, .int .i64 e])) w' := ⟨none, 0, rfl, fun j hj => by simp at hj, hE⟩
theorem ints_new2 (w : World) (x y : Int) (T : TypeId) (B : Nat) (hB : w.heap.size = B) : Ints (w.alloc (.cells #[.int .i64 x, .int .i64 y] T)) (some ⟨B, 0, none⟩) [x, y] := by
  subst hB
  intro j hj
  refine ⟨_, _, rfl, by simp, ?_⟩
  match j, hj with
  | 0, _ => simp
  | 1, _ => simp
theorem ints_new1 (w : World) (x : Int) (T : TypeId) (B : Nat) (hB : w.heap.size = B) : Ints (w.alloc (.cells #[.int .i64 x] T)) (some ⟨B, 0, none⟩) [x] := by
  subst hB
  intro j hj
  refine ⟨_, _, rfl, by simp, ?_⟩
  match j, hj with
  | 0, _ => simp
theorem row_empty (w : World) (e : TypeId) (size : Nat) : (w.alloc (.cells #[] e)).ownsRow w.heap.size e size (.slice (some ⟨w.heap.size, 0, none⟩) 0 0) 0 [] :=
  ⟨by simp, .inr ⟨w.heap.size, 0, #[], rfl, Nat.le_refl _, heap_alloc_new w _, Nat.le_refl _, by unfold maxLen; omega, by simp, by simp⟩⟩
theorem ext_grow {w X Y : World} {base : Nat} {e : TypeId} {size k : Nat} {v : Value} {xs : List Value} (h : Ext w X) (hrow : X.ownsRow base e size v k xs) (hb : w.heap.size ≤ base) (hgrow : X.grownBy Y v.ownBlock) : Ext w Y :=
  h.grown hgrow h.size fun j ej => by
    rcases hrow.2 with ⟨rfl, _⟩ | ⟨g, cap, cur, rfl, hg, _, _⟩
    · simp [Value.ownBlock] at ej
    · obtain rfl : g = j := by simpa [Value.ownBlock] using ej
      exact Nat.le_trans hb hg
theorem ownsRow_form {W : World} {base : Nat} {e : TypeId} {size : Nat} {v : Value} {k : Nat} {xs : List Value} (h : W.ownsRow base e size v k xs) (hk : 0 < k) : ∃ g cap, v = .slice (some ⟨g, 0, none⟩) k cap ∧ base ≤ g ∧ g < W.heap.size := by
  rcases h.2 with ⟨_, h0⟩ | ⟨g, cap, _, rfl, hb, hg, _⟩
  · omega
  · exact ⟨g, cap, rfl, hb, (Array.getElem?_eq_some_iff.1 hg).1⟩
theorem slice_form {W : World} {base : Nat} {e : TypeId} {size : Nat} {v : Value} {k : Nat} {xs : List Value} (h : W.ownsRow base e size v k xs) : ∃ a cap, v = .slice a k cap := by
  rcases h.2 with ⟨rfl, rfl⟩ | ⟨g, cap, _, rfl, hb, hg, _⟩
  · exact ⟨none, 0, rfl⟩
  · exact ⟨_, cap, rfl⟩
end
end Go.Proofs.Ytfhgnmijigdlmaa
