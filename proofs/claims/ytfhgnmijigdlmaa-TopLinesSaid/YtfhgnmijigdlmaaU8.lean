/- Two rows that grow in a box of two; append of one number within a region that draws its order. -/
import Derived.Test.YtfhgnmijigdlmaaTr1
namespace Go.Proofs.Ytfhgnmijigdlmaa.Tr
open Go.RowKit

/-- a box of two rows of numbers that grow -/
structure PBox (T : TypeId) (W : World) (B g : Nat) (v0 v1 : Value) (l0 l1 : List Int) : Prop where
  blk : BlkC W g #[v0, v1] T
  base : B ≤ g
  r0 : W.ownsRow B 3 1 v0 l0.length (l0.map (.int .i64))
  r1 : W.ownsRow B 3 1 v1 l1.length (l1.map (.int .i64))
  n0 : some g ≠ v0.ownBlock
  n1 : some g ≠ v1.ownBlock
  ap : ∀ q, v0.ownBlock = some q → some q ≠ v1.ownBlock
theorem own_lt {W : World} {B k : Nat} {T : TypeId} {v : Value} {xs : List Value} (h : W.ownsRow B T 1 v k xs) {q : Nat} (hq : v.ownBlock = some q) : q < W.heap.size := by
  rcases h.2 with ⟨rfl, _⟩ | ⟨g, cap, cur, rfl, hb, hg, _⟩
  · simp [Value.ownBlock] at hq
  · obtain rfl : g = q := by simpa [Value.ownBlock] using hq
    exact (Array.getElem?_eq_some_iff.1 hg).1
section
variable {T : TypeId} {W W' w' : World} {B g : Nat} {v0 v1 v' : Value} {l0 l1 : List Int} {x : Int}
theorem PBox.ext (h : PBox T W B g v0 v1 l0 l1) (hE : Ext W W') : PBox T W' B g v0 v1 l0 l1 :=
  ⟨h.blk.ext hE, h.base, row_ext h.r0 hE, row_ext h.r1 hE, h.n0, h.n1, h.ap⟩
theorem PBox.new (W : World) (T : TypeId) : PBox T (W.alloc (.cells #[.slice none 0 0, .slice none 0 0] T)) W.heap.size W.heap.size (.slice none 0 0) (.slice none 0 0) [] [] :=
  ⟨BlkC.new _ _ _, Nat.le_refl _, World.ownsRow_nil _ _ _ _, World.ownsRow_nil _ _ _ _, by simp [Value.ownBlock], by simp [Value.ownBlock], fun q hq => by simp [Value.ownBlock] at hq⟩
theorem row_grown {u : Value} {v : Value} {b2 k2 : Nat} {ys : List Value} (hg : W.grownBy w' v.ownBlock) (hu : W.ownsRow b2 3 1 u k2 ys) (hne : ∀ g, u.ownBlock = some g → some g ≠ v.ownBlock) : w'.ownsRow b2 3 1 u k2 ys := by
  refine ⟨hu.1, ?_⟩
  rcases hu.2 with h0 | ⟨g, cap, cur, rfl, hb, hk, h1, h2, h3⟩
  · exact .inl h0
  · exact .inr ⟨g, cap, cur, rfl, hb, (hg.block g (Array.getElem?_eq_some_iff.1 hk).1 (hne g rfl)).trans hk, h1, h2, h3⟩
theorem PBox.blk0 (h : PBox T W B g v0 v1 l0 l1) (hg : W.grownBy w' v0.ownBlock) : BlkC w' g #[v0, v1] T := h.blk.grown hg h.n0
theorem PBox.blk1 (h : PBox T W B g v0 v1 l0 l1) (hg : W.grownBy w' v1.ownBlock) : BlkC w' g #[v0, v1] T := h.blk.grown hg h.n1
theorem PBox.push0 (h : PBox T W B g v0 v1 l0 l1) (hg : W.grownBy w' v0.ownBlock) (hat : v'.ownBlock = v0.ownBlock ∨ v'.ownBlock = some W.heap.size) (hown : w'.ownsRow B 3 1 v' (l0.length + 1) (l0.map (.int .i64) ++ [.int .i64 x])) : PBox T (w'.setCell ⟨g, 0, none⟩ v') B g v' v1 (l0 ++ [x]) l1 := by
  have hn := far_keeps h.n0 h.blk.lt hat
  refine ⟨(h.blk0 hg).set 0 v', h.base, ?_, ?_, hn, h.n1, fun q hq => ?_⟩
  · have := row_set_other hown hn 0 v'
    rw [List.length_append, List.map_append]; exact this
  · exact row_set_other (row_grown hg h.r1 (fun q hq e => h.ap q e.symm hq.symm)) h.n1 0 v'
  · rcases hat with e | e
    · exact h.ap q (by rw [← e]; exact hq)
    · intro e2
      have h1 := own_lt h.r1 e2.symm
      rw [e] at hq
      simp at hq
      omega
theorem PBox.push1 (h : PBox T W B g v0 v1 l0 l1) (hg : W.grownBy w' v1.ownBlock) (hat : v'.ownBlock = v1.ownBlock ∨ v'.ownBlock = some W.heap.size) (hown : w'.ownsRow B 3 1 v' (l1.length + 1) (l1.map (.int .i64) ++ [.int .i64 x])) : PBox T (w'.setCell ⟨g, 1, none⟩ v') B g v0 v' l0 (l1 ++ [x]) := by
  have hn := far_keeps h.n1 h.blk.lt hat
  refine ⟨(h.blk1 hg).set 1 v', h.base, ?_, ?_, h.n0, hn, fun q hq => ?_⟩
  · exact row_set_other (row_grown hg h.r0 (fun q hq e => h.ap q hq e)) h.n0 1 v'
  · have := row_set_other hown hn 1 v'
    rw [List.length_append, List.map_append]; exact this
  · rcases hat with e | e
    · rw [e]; exact h.ap q hq
    · intro e2
      have h1 := own_lt h.r0 hq
      rw [e] at e2
      simp at e2
      omega
theorem PBox.grow0 (h : PBox T W B g v0 v1 l0 l1) (hg : W.grownBy w' v0.ownBlock) {w0 : World} (hE : Ext w0 W) (hB : w0.heap.size ≤ B) : Ext w0 (w'.setCell ⟨g, 0, none⟩ v') := Below.setCell (p := ⟨g, 0, none⟩) (ext_grow hE h.r0 hB hg) (Nat.le_trans hB h.base) v'
theorem PBox.grow1 (h : PBox T W B g v0 v1 l0 l1) (hg : W.grownBy w' v1.ownBlock) {w0 : World} (hE : Ext w0 W) (hB : w0.heap.size ≤ B) : Ext w0 (w'.setCell ⟨g, 1, none⟩ v') := Below.setCell (p := ⟨g, 1, none⟩) (ext_grow hE h.r1 hB hg) (Nat.le_trans hB h.base) v'
theorem reads_new (w : World) (x : Int) (T : TypeId) : Reads (w.alloc (.cells #[.int .i64 x] T)).drew (w.alloc (.cells #[.int .i64 x] T)).drew.heap.size 1 (some ⟨w.heap.size, 0, none⟩) 1 [.int .i64 x] := reads_ints ((ints_new1 w x T _ rfl).ext (ext_drew _))
theorem ext_new (w : World) (x : Int) (T : TypeId) : Ext w (w.alloc (.cells #[.int .i64 x] T)).drew := Ext.trans' (ext_alloc _ _) (ext_drew _)
end
end Go.Proofs.Ytfhgnmijigdlmaa.Tr
