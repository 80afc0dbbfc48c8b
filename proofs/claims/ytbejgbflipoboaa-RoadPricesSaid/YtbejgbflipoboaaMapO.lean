/- A map from int to int that the call itself has made, told by a partial function; looked up with 'ok'. -/
import Derived.Maps.OwnOps
import Derived.Maps.OwnSet
import Derived.Maps.Views
import Derived.Test.YtbejgbflipoboaaProg
import Derived.Test.YtbejgbflipoboaaBlk
namespace Go.Proofs.Ytbejgbflipoboaa
open Go.RowKit
/-- block b is a map of at most n entries from int to int: f x at x -/
def MapO (W : World) (b : Nat) (f : Int → Option Int) (n : Nat) : Prop :=
  ∃ D : DataW Unit, Maps.IsMap D ∧ W.ownsMap Try.prog 3 (plainElem Try.prog 3) b n D ∧ ∀ x, (Lit.int .i64 x).wf = true → Maps.has D (.int .i64 x) = (f x).isSome ∧ D.atKey (.int .i64 x) (.lit (.int .i64 0)) = .lit (.int .i64 ((f x).getD 0))
def updO (f : Int → Option Int) (x v : Int) : Int → Option Int := fun y => if y = x then some v else f y
theorem wf_smallO {x : Int} (h : -1000000000000000000 ≤ x ∧ x ≤ 1000000000000000000) : (Lit.int .i64 x).wf = true := by
  have h1 : IntKind.i64.min = -9223372036854775808 := rfl
  have h2 : IntKind.i64.max = 9223372036854775807 := rfl
  show (decide (IntKind.i64.min ≤ x) && decide (x ≤ IntKind.i64.max)) = true
  rw [h1, h2, Bool.and_eq_true, decide_eq_true_eq, decide_eq_true_eq]
  omega
section
variable {W X : World} {b n : Nat} {f : Int → Option Int}
theorem MapO.made (W : World) : MapO (W.alloc (.map #[] 0)) W.heap.size (fun _ => none) 0 :=
  ⟨.map [], Maps.isMap_empty, World.ownsMap_made W _ _ _, fun _ _ => ⟨rfl, rfl⟩⟩
theorem MapO.lt (h : MapO W b f n) : b < W.heap.size := by obtain ⟨D, _, h, _⟩ := h; exact h.lt
theorem MapO.kept {row : Option Nat} (h : MapO W b f n) (hg : W.grownBy X row) (hne : some b ≠ row) : MapO X b f n := by
  obtain ⟨D, h1, h2, h3⟩ := h
  exact ⟨D, h1, h2.kept hg hne, h3⟩
theorem MapO.ext (h : MapO W b f n) (hE : Ext W X) : MapO X b f n := h.kept (row := none) ⟨hE.os, hE.tape, hE.output, hE.size, fun i hi _ => hE.block i hi⟩ (by simp)
theorem MapO.congr (h : MapO W b f n) {g : Int → Option Int} (e : ∀ x, f x = g x) : MapO W b g n := by
  obtain ⟨D, h1, h2, h3⟩ := h
  exact ⟨D, h1, h2, fun x hx => by rw [← e x]; exact h3 x hx⟩
theorem MapO.mono (h : MapO W b f n) {m : Nat} (hm : n ≤ m) : MapO W b f m := by
  obtain ⟨D, h1, h2, h3⟩ := h
  exact ⟨D, h1, h2.mono hm, h3⟩
set_option maxRecDepth 20000 in
theorem MapO.look {t : TypeId} (ht : Try.prog.underlying t = some (.map 3 3)) (h : MapO W b f n) {x : Int} (hx : -1000000000000000000 ≤ x ∧ x ≤ 1000000000000000000) : (Instr.lookup t (.map (some b)) (.int .i64 x) true).run Try.prog W = .ok (.tuple #[.int .i64 ((f x).getD 0), .bool (f x).isSome]) W := by
  obtain ⟨D, h1, h2, h3⟩ := h
  obtain ⟨h4, h5⟩ := h3 x (wf_smallO hx)
  have hw0 : (Lit.int .i64 0).wf = true := by decide
  obtain ⟨v, ps, hr, hv⟩ := h2.look_ok (Maps.int_keyed Try.underlying3) ht (z := .int .i64 0) (by kernel_rfl) (plainElem_int Try.underlying3 hw0) (Maps.keyOf_int_mk Try.underlying3 (wf_smallO hx))
  obtain ⟨c, rfl, hc, _⟩ := plainElem_int_inv Try.underlying3 hv
  simp only [Prod.mk.injEq] at hc
  have hc1 := hc.1
  rw [h5] at hc1
  injection hc1 with hc1
  injection hc1 with _ hc1
  rw [hr, h4, hc1]
set_option maxRecDepth 20000 in
theorem MapO.store {t : TypeId} (ht : Try.prog.underlying t = some (.map 3 3)) (h : MapO W b f n) (hn : n ≤ 1000000) {x v : Int} (hx : -1000000000000000000 ≤ x ∧ x ≤ 1000000000000000000) (hv : -1000000000000000000 ≤ v ∧ v ≤ 1000000000000000000) :
    ∃ X, (Instr.mapUpdate t (.map (some b)) (.int .i64 x) (.int .i64 v)).run Try.prog W = .ok () X ∧ MapO X b (updO f x v) (n + 1) ∧ W.grownBy X (some b) := by
  obtain ⟨D, h1, h2, h3⟩ := h
  obtain ⟨X, hr, hX, hg⟩ := h2.update (Maps.int_keyed Try.underlying3) ht (by unfold maxLen; omega) (Maps.keyOf_int_mk Try.underlying3 (wf_smallO hx)) (plainElem_int Try.underlying3 (wf_smallO hv))
  refine ⟨X, hr, ⟨_, h1.put _ _, hX, fun y hy => ?_⟩, hg⟩
  unfold updO
  by_cases e : y = x
  · subst e
    rw [if_pos rfl, Maps.atKey_put_same h1 (by simp [WideAt.IsKeyLit]), Maps.has_put_same h1 (by simp [WideAt.IsKeyLit])]
    exact ⟨rfl, rfl⟩
  · rw [if_neg e, Maps.atKey_put_other (by intro e2; injection e2; contradiction), Maps.has_put_other (by intro e2; injection e2; contradiction)]
    exact h3 y hy
end
end Go.Proofs.Ytbejgbflipoboaa
