/- A map from int to int that the call itself has made, told by a function. -/
import Derived.Maps.OwnOps
import Derived.Maps.Views
import Derived.Test.YtfhgnmijigdlmaaProg
import Derived.Test.YtfhgnmijigdlmaaBlk
namespace Go.Proofs.Ytfhgnmijigdlmaa
open Go.RowKit
/-- block b is a map of at most n entries from int to int, with f x at x (0 where nothing stands) -/
def MapI (W : World) (b : Nat) (f : Int → Int) (n : Nat) : Prop :=
  ∃ D : DataW Unit, Maps.IsMap D ∧ W.ownsMap Try.prog 3 (plainElem Try.prog 3) b n D ∧ ∀ x, (Lit.int .i64 x).wf = true → D.atKey (.int .i64 x) (.lit (.int .i64 0)) = .lit (.int .i64 (f x))
def updF (f : Int → Int) (x v : Int) : Int → Int := fun y => if y = x then v else f y
theorem wf_small {x : Int} (h : -1000000000000000000 ≤ x ∧ x ≤ 1000000000000000000) : (Lit.int .i64 x).wf = true := by
  have h1 : IntKind.i64.min = -9223372036854775808 := rfl
  have h2 : IntKind.i64.max = 9223372036854775807 := rfl
  show (decide (IntKind.i64.min ≤ x) && decide (x ≤ IntKind.i64.max)) = true
  rw [h1, h2, Bool.and_eq_true, decide_eq_true_eq, decide_eq_true_eq]
  omega
section
variable {W X : World} {b n : Nat} {f : Int → Int}
theorem MapI.made (W : World) : MapI (W.alloc (.map #[] 0)) W.heap.size (fun _ => 0) 0 :=
  ⟨.map [], Maps.isMap_empty, World.ownsMap_made W _ _ _, fun _ _ => rfl⟩
theorem MapI.lt (h : MapI W b f n) : b < W.heap.size := by obtain ⟨D, _, h, _⟩ := h; exact h.lt
theorem MapI.kept {row : Option Nat} (h : MapI W b f n) (hg : W.grownBy X row) (hne : some b ≠ row) : MapI X b f n := by
  obtain ⟨D, h1, h2, h3⟩ := h
  exact ⟨D, h1, h2.kept hg hne, h3⟩
theorem MapI.ext (h : MapI W b f n) (hE : Ext W X) : MapI X b f n := h.kept (row := none) ⟨hE.os, hE.tape, hE.output, hE.size, fun i hi _ => hE.block i hi⟩ (by simp)
theorem MapI.alloc (h : MapI W b f n) (o : Obj) : MapI (W.alloc o) b f n := h.ext (ext_alloc W o)
theorem MapI.congr (h : MapI W b f n) {g : Int → Int} (e : ∀ x, (Lit.int .i64 x).wf = true → f x = g x) : MapI W b g n := by
  obtain ⟨D, h1, h2, h3⟩ := h
  exact ⟨D, h1, h2, fun x hx => by rw [h3 x hx, e x hx]⟩
theorem MapI.mono (h : MapI W b f n) {m : Nat} (hm : n ≤ m) : MapI W b f m := by
  obtain ⟨D, h1, h2, h3⟩ := h
  exact ⟨D, h1, h2.mono hm, h3⟩
set_option maxRecDepth 20000 in
theorem MapI.look {t : TypeId} (ht : Try.prog.underlying t = some (.map 3 3)) (h : MapI W b f n) {x : Int} (hx : -1000000000000000000 ≤ x ∧ x ≤ 1000000000000000000) : (Instr.lookup t (.map (some b)) (.int .i64 x) false).run Try.prog W = .ok (.int .i64 (f x)) W := by
  obtain ⟨D, h1, h2, h3⟩ := h
  obtain ⟨c, hr, hat, _⟩ := h2.lookup_int (Maps.int_keyed Try.underlying3) ht Try.underlying3 (by kernel_rfl) (Maps.keyOf_int_mk Try.underlying3 (wf_small hx))
  rw [h3 x (wf_small hx)] at hat
  injection hat with hat
  injection hat with _ hat
  rw [hr, hat]
set_option maxRecDepth 20000 in
theorem MapI.store {t : TypeId} (ht : Try.prog.underlying t = some (.map 3 3)) (h : MapI W b f n) (hn : n ≤ 1000000) {x v : Int} (hx : -1000000000000000000 ≤ x ∧ x ≤ 1000000000000000000) (hv : -1000000000000000000 ≤ v ∧ v ≤ 1000000000000000000) :
    ∃ X, (Instr.mapUpdate t (.map (some b)) (.int .i64 x) (.int .i64 v)).run Try.prog W = .ok () X ∧ MapI X b (updF f x v) (n + 1) ∧ W.grownBy X (some b) := by
  obtain ⟨D, h1, h2, h3⟩ := h
  obtain ⟨X, hr, hX, hg⟩ := h2.update (Maps.int_keyed Try.underlying3) ht (by unfold maxLen; omega) (Maps.keyOf_int_mk Try.underlying3 (wf_small hx)) (plainElem_int Try.underlying3 (wf_small hv))
  refine ⟨X, hr, ⟨_, h1.put _ _, hX, fun y hy => ?_⟩, hg⟩
  unfold updF
  by_cases e : y = x
  · subst e
    rw [if_pos rfl, Maps.atKey_put_same h1 (by simp [WideAt.IsKeyLit])]
  · rw [if_neg e, Maps.atKey_put_other (by intro e2; injection e2; contradiction), h3 y hy]
end
end Go.Proofs.Ytfhgnmijigdlmaa
