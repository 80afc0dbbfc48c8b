/- The range over a map from int to int that the call itself has made: what is not to come any more holds 0. -/
import Derived.Maps.RangeWalk
import Derived.Test.YtfhgnmijigdlmaaMapI
namespace Go.Proofs.Ytfhgnmijigdlmaa
open Go.RowKit Go.Maps
theorem law3 : Keyed Try.prog 3 := int_keyed Try.underlying3
/-- the loop over b is under way, and what has come so far held 0 -/
def RanI (W : World) (b r n : Nat) (f : Int → Int) (cnt : Nat) : Prop :=
  ∃ (D : DataW Unit) (left : Lit → Bool), W.ranges Try.prog 3 (plainElem Try.prog 3) b r n D left cnt ∧ (∀ x, (Lit.int .i64 x).wf = true → D.atKey (.int .i64 x) (.lit (.int .i64 0)) = .lit (.int .i64 (f x))) ∧ ∀ x, (Lit.int .i64 x).wf = true → left (.int .i64 x) = false → f x = 0
theorem RanI.left_eq {W : World} {b r n : Nat} {f : Int → Int} {cnt : Nat} (h : RanI W b r n f cnt) : W.rangeLeft b r = cnt := by
  obtain ⟨D, left, h, _⟩ := h; exact h.left_eq
theorem RanI.ne {W : World} {b r n : Nat} {f : Int → Int} {cnt : Nat} (h : RanI W b r n f cnt) : r ≠ b := by
  obtain ⟨D, left, h, _⟩ := h; exact h.ne
theorem RanI.alloc {W : World} {b r n : Nat} {f : Int → Int} {cnt : Nat} (h : RanI W b r n f cnt) (o : Obj) : RanI (W.alloc o) b r n f cnt := by
  obtain ⟨D, left, h, h2⟩ := h; exact ⟨D, left, h.alloc o, h2⟩
section
variable (w : World) {ops : Array Oper} {rest : List Oper} {o : Oper} {a : Act} {Q : Exit → Act → World → Prop}
set_option maxRecDepth 100000 in
theorem wpList_range_I (hg : o.guard = none) (m : Operand) (t : TypeId) (hop : o.op = Op.range t m) (ht : Try.prog.underlying t = some (.map 3 3)) (b n : Nat) (f : Int → Int)
    (hm : a.eval m = .map (some b)) (h : MapI w b f n)
    (hK : ∀ w' cnt, RanI w' b w.heap.size n f cnt → Ext w w' → wpList Try.prog ops Q rest (a.put o.dst (.pointer (some ⟨w.heap.size, 0, none⟩))) w') :
    wpList Try.prog ops Q (o :: rest) a w := by
  obtain ⟨D, h1, h2, h3⟩ := h
  refine wpList_range_own w hg m t hop 3 3 law3 ht _ b n D hm h2 fun w' r1 r2 r3 => hK w' _ ⟨D, _, r1, h3, fun x hx hh => ?_⟩ ⟨r2.os, r2.tape, r2.output, r2.size, fun i hi => r2.block i hi (by simp)⟩
  have := h3 x hx
  rw [Maps.atKey_of_not_has hh] at this
  injection this with this
  injection this with _ this
  exact this.symm
set_option maxRecDepth 100000 in
theorem wpList_next_I (hg : o.guard = none) (it : Operand) (hop : o.op = Op.next it false) (b r n : Nat) (f : Int → Int) (cnt : Nat) (hit : a.eval it = .pointer (some ⟨r, 0, none⟩)) (h : RanI w b r n f cnt)
    (hDone : (∀ x, (Lit.int .i64 x).wf = true → f x = 0) → wpList Try.prog ops Q rest (a.put o.dst (.tuple #[.bool false])) w)
    (hMore : ∀ (x c : Int) (w' : World) (cnt' : Nat), (Lit.int .i64 x).wf = true → f x = c → (c = 0 → RanI w' b r n f cnt') → cnt' < cnt → w.grownBy w' (some r) →
      (Instr.entry (.pointer (some ⟨r, 0, none⟩))).run Try.prog w' = .ok (.tuple #[.int .i64 x, .int .i64 c]) w' → wpList Try.prog ops Q rest (a.put o.dst (.tuple #[.bool true, .int .i64 x, .int .i64 c])) w') :
    wpList Try.prog ops Q (o :: rest) a w := by
  obtain ⟨D, left, h1, h2, h3⟩ := h
  refine wpList_next_ranges_ii w hg it hop 3 3 .i64 .i64 law3 Try.underlying3 Try.underlying3 b r n D left cnt hit h1 (fun _ hl => hDone fun x hx => h3 x hx (hl _)) ?_
  intro x c w' cnt' hwx hwc hlx hat hrg hlt hgr hsz hen
  have hfx : f x = c := by
    have e := h2 x hwx
    rw [hat] at e
    injection e with e
    injection e with _ e
    exact e.symm
  refine hMore x c w' cnt' hwx hfx (fun hc => ⟨D, _, hrg, h2, fun y hy hly => ?_⟩) hlt hgr hen
  by_cases e : y = x
  · rw [e, hfx, hc]
  · refine h3 y hy ?_
    rw [Maps.sameKey_ne (by intro e2; injection e2; contradiction)] at hly
    simpa using hly
end
end Go.Proofs.Ytfhgnmijigdlmaa
