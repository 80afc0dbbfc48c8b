/- A list of numbers in a block of the call's own, with its capacity; append of one number. -/
import Derived.Test.YtaidoaggmllcfaaBlk
namespace Go.Proofs.Ytaidoaggmllcfaa
open Go.RowKit

/-- a list of numbers (element type T) that lies in the block g, made since the world had the size B -/
def OwnG (W : World) (T : TypeId) (B g n cap : Nat) (l : List Int) : Prop := W.ownsRow B T 1 (.slice (some ⟨g, 0, none⟩) n cap) n (l.map (.int .i64))
section
variable {W X : World} {T : TypeId} {B g n cap : Nat} {l : List Int}
theorem OwnG.len (h : OwnG W T B g n cap l) : l.length = n := by have := h.1; simp at this; omega
theorem OwnG.slot (h : OwnG W T B g n cap l) : g < W.heap.size ∧ n ≤ cap ∧ B ≤ g := by
  rcases h.2 with ⟨e, _⟩ | ⟨g', cap', cur, e, hb, hg, h1, _⟩
  · simp at e
  · simp at e
    obtain ⟨rfl, rfl⟩ := e
    exact ⟨(Array.getElem?_eq_some_iff.1 hg).1, h1, hb⟩
theorem OwnG.cell {i : Nat} (h : OwnG W T B g n cap l) (hi : i < l.length) : W.cell? ⟨g, i, none⟩ = some (.int .i64 (l[i]?.getD 0)) := by
  refine (World.ownsRow.cellAt h i (by have := h.len; omega)).trans ?_
  rw [List.getElem?_map]; simp [hi]
theorem OwnG.store (h : OwnG W T B g n cap l) (i : Nat) (v : Int) : OwnG (W.setCell ⟨g, i, none⟩ (.int .i64 v)) T B g n cap (l.set i v) := by
  have hst := (World.ownsRow.stored h i (.int .i64 v)).1
  rw [← List.map_set] at hst
  exact hst
theorem OwnG.ext (h : OwnG W T B g n cap l) (hE : Ext W X) : OwnG X T B g n cap l := row_ext h hE
theorem OwnG.froz (h : OwnG W T B g n cap l) (i : Nat) : W.frozen? ⟨g, i, none⟩ = false := World.ownsRow.frozenAt h i
theorem OwnG.other {g' : Nat} (h : OwnG W T B g n cap l) (hne : g' ≠ g) (i : Nat) (u : Value) : OwnG (W.setCell ⟨g', i, none⟩ u) T B g n cap l :=
  row_set_other h (by simpa [Value.ownBlock] using hne) i u
theorem OwnG.ints (h : OwnG W T B g n cap l) : Ints W (some ⟨g, 0, none⟩) l := fun j hj => ⟨g, 0, rfl, h.slot.1, by rw [Nat.zero_add]; exact h.cell hj⟩
theorem OwnG.base {B' : Nat} (h : OwnG W T B g n cap l) (hB : B' ≤ B) : OwnG W T B' g n cap l := row_base h hB
end
/-- out = append(out, x): one number -/
theorem wpList_push1 {P : Program} {ops : Array Oper} {rest : List Oper} {o : Oper} {a : Act} {Q : Exit → Act → World → Prop} {w : World} {T0 : TypeId} {i : TypeInfo} {x : Int} {v : Value} {k base : Nat} {xs : List Int} (hgd : o.guard = none) (s xx : Operand) (t : TypeId)
    (ho : o.op = .call { callee := .builtin .append, args := #[s, xx], argTypes := #[t, t] }) (hi : P.info? T0 = some i ∧ i.zero = some (.int .i64 0) ∧ i.size = 1 ∧ i.bytes = 8) (ht : P.underlying t = some (.slice T0))
    (hs : a.eval s = v) (hx : a.eval xx = .slice (some ⟨w.heap.size, 0, none⟩) 1 1) (hown : w.ownsRow base T0 1 v k (xs.map (.int .i64))) (hk : k ≤ 1000000) (hbase : base ≤ w.heap.size)
    (h : ∀ v' w', w'.ownsRow base T0 1 v' (k + 1) ((xs ++ [x]).map (.int .i64)) → (w.alloc (.cells #[.int .i64 x] T0)).grownBy w' v.ownBlock → (v'.ownBlock = v.ownBlock ∨ v'.ownBlock = some (w.alloc (.cells #[.int .i64 x] T0)).heap.size) → wpList P ops Q rest (a.put o.dst v') w') : wpList P ops Q (o :: rest) a (w.alloc (.cells #[.int .i64 x] T0)) := by
  obtain ⟨h2, h3, h4, h5⟩ := hi
  refine wpList_append_any _ hgd s xx t ho base T0 i (.int .i64 0) 1 8 ht h2 h3 h4 h5 rfl (by omega) v k _ hs (hown.alloc _) (w.heap.size + 1) (some ⟨w.heap.size, 0, none⟩) 1 1 [.int .i64 x] hx ⟨rfl, fun _ => ⟨_, rfl, ?_, fun j u' hj => ?_⟩⟩ (by simp [Value.oneCell']) (by unfold maxLen; omega) ?_ (by simp; omega) ?_
  · show w.heap.size < w.heap.size + 1; omega
  · match j, hj with
    | 0, hj => simp at hj; subst hj; rw [add_at]; simp
    | j + 1, hj => simp at hj
  · omega
  · intro v' w' h6 h7 h8
    exact h v' w' (by rw [List.map_append]; exact h6) h7 h8
end Go.Proofs.Ytaidoaggmllcfaa
