/- Stretches: what both walks share. -/
import Derived.Test.YtodlbgncdggimaaT33
import Derived.Test.YtodlbgncdggimaaFloat
namespace Go.Proofs.Ytodlbgncdggimaa
open Go.RowKit
attribute [local go_sem] GW.cell

def strsV (l : List Str) : List Value := l.flatMap fun s => [.int .i64 s.fn, .int .i64 s.fd, .int .i64 s.tn, .int .i64 s.td]
theorem strsV_append (l k : List Str) : strsV (l ++ k) = strsV l ++ strsV k := by simp [strsV]
/-- what a call hands back that makes stretches and an error -/
def RetStrs (L : List Str) (err : Int) (w : World) (e : Ending) (w' : World) : Prop :=
  ∃ v, e = .returned (.tuple #[v, .int .i64 err]) ∧ w'.ownsRow w.heap.size 68 4 v L.length (strsV L) ∧ Ext w w'
theorem retT_nil {w w' : World} {e : Int} (hE : Ext w w') : RetStrs [] e w (.returned (.tuple #[.slice none 0 0, .int .i64 e])) w' :=
  ⟨_, rfl, World.ownsRow_nil _ _ _ _, hE⟩
theorem str_bad {pl ws : List Int} {fr to : Int} (h : okStr pl ws fr to = false) : strsL pl ws fr to = [] := by unfold strsL; rw [h]; rfl
theorem okStr_line {pl ws : List Int} {fr to : Int} (h : okLine pl = false) : okStr pl ws fr to = false := by simp [okStr, h]
theorem okStr_len {pl ws : List Int} {fr to : Int} (h : ws.length ≠ pl.length) : okStr pl ws fr to = false := by simp [okStr, h]
theorem okStr_in {pl ws : List Int} {fr to : Int} (h : allIn 20000 ws = false) : okStr pl ws fr to = false := by simp [okStr, h]
theorem okStr_ft {pl ws : List Int} {fr to : Int} (h : (withinB fr (-30) 30 && withinB to (-30) 30) = false) : okStr pl ws fr to = false := by simp [okStr, h]
theorem okStr_lt {pl ws : List Int} {fr to : Int} (h : to ≤ fr) : okStr pl ws fr to = false := by
  have : decide (fr < to) = false := by simp; omega
  simp [okStr, this]
theorem okStr_yes {pl ws : List Int} {fr to : Int} (h1 : okLine pl = true) (h2 : ws.length = pl.length) (h3 : allIn 20000 ws = true) (h4 : (withinB fr (-30) 30 && withinB to (-30) 30) = true) (h5 : fr < to) : okStr pl ws fr to = true := by
  rw [okStr, h1, h3, h4]; simp [h2, h5]

theorem info68 : (Try.prog.info? 68).map (fun i => (i.zero, i.size, i.bytes)) = some (some (.agg #[.int .i64 0, .int .i64 0, .int .i64 0, .int .i64 0]), 4, 32) := by kernel_rfl

theorem rat_one (n : Int) : ratV n 1 = .agg #[.int .i64 n, .int .i64 1] := by
  have h : sgcd n 1 = 1 := by unfold sgcd; rw [if_neg (by omega), Int.gcd_one_right]; rfl
  unfold ratV
  rw [h, Int.tdiv_one, Int.tdiv_one]
theorem ratio_one (n : Int) (w : World) (h : -1000 ≤ n ∧ n ≤ 1000) : Calls Try.prog 76 #[.int .i64 n, .int .i64 1] w fun e w' => e = .returned (.agg #[.int .i64 n, .int .i64 1]) ∧ Ext w w' := by
  have := f76_c n 1 w (by omega) (by omega) (by omega) (by omega) (by omega)
  rw [rat_one] at this
  exact this
theorem row_new {X : World} {base : Nat} {e : TypeId} {size : Nat} {v : Value} {k : Nat} {xs : List Value} (h : X.ownsRow base e size v k xs) : some X.heap.size ≠ v.ownBlock := by
  rcases h.2 with ⟨rfl, _⟩ | ⟨g, cap, cur, rfl, hb, hg, _⟩
  · simp [Value.ownBlock]
  · intro e'
    have hlt := (Array.getElem?_eq_some_iff.1 hg).1
    have : X.heap.size = g := by simpa [Value.ownBlock] using e'
    omega
def QuadS (W : World) (B : Nat) (s : Str) : Prop := Quad W B 68 (.int .i64 s.fn) (.int .i64 s.fd) (.int .i64 s.tn) (.int .i64 s.td)

theorem row_set_other {X : World} {base : Nat} {e : TypeId} {size : Nat} {v : Value} {k : Nat} {xs : List Value} (h : X.ownsRow base e size v k xs) {B : Nat} (hne : some B ≠ v.ownBlock) (i : Nat) (u : Value) : (X.setCell ⟨B, i, none⟩ u).ownsRow base e size v k xs := by
  refine ⟨h.1, ?_⟩
  rcases h.2 with h0 | ⟨g, cap, cur, rfl, hb, hg, h1, h2, h3⟩
  · exact .inl h0
  · refine .inr ⟨g, cap, cur, rfl, hb, ?_, h1, h2, h3⟩
    have hn : g ≠ B := fun e' => hne (by rw [e']; rfl)
    exact (Below.heap_setCell X ⟨B, i, none⟩ u g hn).trans hg
theorem reads_quad (W : World) (a b c d : Int) : Reads (W.alloc (.cells #[.int .i64 a, .int .i64 b, .int .i64 c, .int .i64 d] 68)) (W.alloc (.cells #[.int .i64 a, .int .i64 b, .int .i64 c, .int .i64 d] 68)).heap.size 4 (some ⟨W.heap.size, 0, none⟩) 1 (strsV [⟨a, b, c, d⟩]) := by
  refine ⟨rfl, fun _ => ⟨_, rfl, by simp, fun j u hu => ?_⟩⟩
  rw [add_at]
  have h0 := Quad.new W 68 (.int .i64 a) (.int .i64 b) (.int .i64 c) (.int .i64 d)
  match j, hu with
  | 0, hu => simp [strsV] at hu; subst hu; exact h0.cell0
  | 1, hu => simp [strsV] at hu; subst hu; exact h0.cell1
  | 2, hu => simp [strsV] at hu; subst hu; exact h0.cell2
  | 3, hu => simp [strsV] at hu; subst hu; exact h0.cell3
  | j + 4, hu => simp [strsV] at hu
theorem reads_quad' (W : World) (B : Nat) (hB : W.heap.size = B) (a b c d : Int) : Reads (W.alloc (.cells #[.int .i64 a, .int .i64 b, .int .i64 c, .int .i64 d] 68)) (W.alloc (.cells #[.int .i64 a, .int .i64 b, .int .i64 c, .int .i64 d] 68)).heap.size 4 (some ⟨B, 0, none⟩) 1 (strsV [⟨a, b, c, d⟩]) := by
  subst hB; exact reads_quad W a b c d
theorem strsV_one_cell (l : List Str) : ∀ u ∈ strsV l, u.oneCell' = true := by
  intro u hu
  simp only [strsV, List.mem_flatMap] at hu
  obtain ⟨s, _, hs⟩ := hu
  simp at hs
  rcases hs with rfl | rfl | rfl | rfl <;> rfl
theorem strs_succ (f : Nat → Str) (k : Nat) : strsV ((List.range (k + 1)).map f) = strsV ((List.range k).map f) ++ strsV [f k] := by
  rw [List.range_succ, List.map_append, strsV_append]; rfl
theorem run_alloc55 (ρ : Operand → Value) (W : World) (d : Option Tmp) (ty : TypeId) (pos : String) (af : Array Edge) : (execOp ρ ⟨d, .alloc 55, ty, pos, af, none⟩).run Try.prog W = .ok (.value (ptrV W.heap.size)) (W.alloc (.cells #[.int .i64 0, .int .i64 0] 55)) := by
  simp [go_sem, ptrV]
theorem Blk.other' {X : World} {B : Nat} {o : Obj} (h : Blk X B o) {B' : Nat} (hne : B ≠ B') (i : Nat) (u : Value) : Blk (X.setCell ⟨B', i, none⟩ u) B o := (Below.heap_setCell X ⟨B', i, none⟩ u B hne).trans h
/-- a block of two values -/
def Pair (W : World) (B : Nat) (T : TypeId) (a b : Value) : Prop := Blk W B (.cells #[a, b] T)
section
variable {X Y : World} {B : Nat} {T : TypeId} {a b : Value}
theorem Pair.new (W : World) (T : TypeId) (a b : Value) : Pair (W.alloc (.cells #[a, b] T)) W.heap.size T a b := World.alloc_heap_new W _
theorem Pair.lt (h : Pair X B T a b) : B < X.heap.size := Blk.lt h
theorem Quad.lt {c d : Value} (h : Quad X B T a b c d) : B < X.heap.size := Blk.lt h
theorem Pair.cell0 (h : Pair X B T a b) : X.cell? ⟨B, 0, none⟩ = some a := by simp [World.cell?, show X.heap[B]? = _ from h]
theorem Pair.cell1 (h : Pair X B T a b) : X.cell? ⟨B, 1, none⟩ = some b := by simp [World.cell?, show X.heap[B]? = _ from h]
theorem Pair.frozen (h : Pair X B T a b) (j : Nat) : X.frozen? ⟨B, j, none⟩ = false := by simp [World.frozen?, show X.heap[B]? = _ from h]
theorem Pair.set0 (h : Pair X B T a b) (u : Value) : Pair (X.setCell ⟨B, 0, none⟩ u) B T u b := by
  obtain ⟨hlt, hk⟩ := Array.getElem?_eq_some_iff.1 (show X.heap[B]? = some (.cells #[a, b] T) from h)
  show (X.heap.modify B _)[B]? = _
  rw [Array.getElem?_eq_getElem (by rw [Array.size_modify]; exact hlt), Array.getElem_modify_self, hk]
  rfl
theorem Pair.set1 (h : Pair X B T a b) (u : Value) : Pair (X.setCell ⟨B, 1, none⟩ u) B T a u := by
  obtain ⟨hlt, hk⟩ := Array.getElem?_eq_some_iff.1 (show X.heap[B]? = some (.cells #[a, b] T) from h)
  show (X.heap.modify B _)[B]? = _
  rw [Array.getElem?_eq_getElem (by rw [Array.size_modify]; exact hlt), Array.getElem_modify_self, hk]
  rfl
end
theorem wpList_store_quad {ops : Array Oper} {Q : Exit → Act → World → Prop} {rest : List Oper} {a : Act} {W : World} {t u : Tmp} {ty : TypeId} {pos : String} {af : Array Edge} (B : Nat) {v0 v1 v2 v3 : Value} (n0 n1 n2 n3 : Int)
    (hq : Quad W B 68 v0 v1 v2 v3) (h1 : a.tmps.getD t undef = .pointer (some ⟨B, 0, none⟩)) (h2 : a.tmps.getD u undef = .agg #[.int .i64 n0, .int .i64 n1, .int .i64 n2, .int .i64 n3])
    (h : ∀ W', Hid (W' = ((((W.setCell ⟨B, 0, none⟩ (.int .i64 n0)).setCell ⟨B, 1, none⟩ (.int .i64 n1)).setCell ⟨B, 2, none⟩ (.int .i64 n2)).setCell ⟨B, 3, none⟩ (.int .i64 n3))) → Quad W' B 68 (.int .i64 n0) (.int .i64 n1) (.int .i64 n2) (.int .i64 n3) → wpList Try.prog ops Q rest a W') :
    wpList Try.prog ops Q (⟨none, .store 68 (.tmp t) (.tmp u), ty, pos, af, none⟩ :: rest) a W := by
  have h' := h _ (Lib.hid rfl) ((((hq.set0 _).set1 _).set2 _).set3 _)
  have a0 := hq.cell0
  have a1 := (hq.set0 (.int .i64 n0)).cell1
  have a2 := ((hq.set0 (.int .i64 n0)).set1 (.int .i64 n1)).cell2
  have a3 := (((hq.set0 (.int .i64 n0)).set1 (.int .i64 n1)).set2 (.int .i64 n2)).cell3
  have f0 := fun i => hq.frozen i
  have f1 := fun i => (hq.set0 (.int .i64 n0)).frozen i
  have f2 := fun i => ((hq.set0 (.int .i64 n0)).set1 (.int .i64 n1)).frozen i
  have f3 := fun i => (((hq.set0 (.int .i64 n0)).set1 (.int .i64 n1)).set2 (.int .i64 n2)).frozen i
  simp [wpList, go_sem, Act.eval, h1, h2, a0, a1, a2, a3, f0, f1, f2, f3]
  exact .inl h'
theorem row_far2 {X : World} {base : Nat} {e : TypeId} {size : Nat} {v : Value} {k : Nat} {xs : List Value} (h : X.ownsRow base e size v k xs) {B : Nat} (hB : X.heap.size ≤ B) : some B ≠ v.ownBlock := by
  rcases h.2 with ⟨rfl, _⟩ | ⟨g, cap, cur, rfl, hb, hg, _⟩
  · simp [Value.ownBlock]
  · intro e'
    have hlt := (Array.getElem?_eq_some_iff.1 hg).1
    have : B = g := by simpa [Value.ownBlock] using e'
    omega

end Go.Proofs.Ytodlbgncdggimaa
