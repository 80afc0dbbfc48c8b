/- General texts of seat c5: blocks whose cells are known, lists of numbers and of pairs in blocks of the call's own. -/
import Derived.Deep.LoopGhost
import Derived.Deep.Cut
import Derived.Deep.CutRange
import Derived.Deep.DeepCutAuto
import Derived.Deep.RegionWith
import Derived.Deep.RegionHeld3
import Derived.RegionTactic
import Derived.BigRegion
import Derived.Test.YtodlbgncdggimaaApp
import Derived.Test.YtodlbgncdggimaaT20
import Derived.Test.YtodlbgncdggimaaP11
namespace Go.Proofs.Ytodlbgncdggimaa
open Go.RowKit

/-- block B holds just the cells cs -/
def BlkC (W : World) (B : Nat) (cs : Array Value) (T : TypeId) : Prop := W.heap[B]? = some (.cells cs T (0, 0))
section
variable {W X Y : World} {B : Nat} {T : TypeId} {cs : Array Value}
theorem BlkC.new (W : World) (cs : Array Value) (T : TypeId) : BlkC (W.alloc (.cells cs T)) W.heap.size cs T := World.alloc_heap_new W _
theorem BlkC.lt (h : BlkC X B cs T) : B < X.heap.size := (Array.getElem?_eq_some_iff.1 h).1
theorem BlkC.cell (h : BlkC X B cs T) (i : Nat) : X.cell? ⟨B, i, none⟩ = cs[i]? := by simp [World.cell?, show X.heap[B]? = _ from h]
theorem BlkC.cellv (h : BlkC X B cs T) (i : Nat) {v : Value} (hv : cs[i]? = some v) : X.cell? ⟨B, i, none⟩ = some v := (h.cell i).trans hv
theorem BlkC.frozen (h : BlkC X B cs T) (j : Nat) : X.frozen? ⟨B, j, none⟩ = false := by simp [World.frozen?, show X.heap[B]? = _ from h]
theorem BlkC.set (h : BlkC X B cs T) (i : Nat) (u : Value) : BlkC (X.setCell ⟨B, i, none⟩ u) B (cs.setIfInBounds i u) T := by
  obtain ⟨hlt, hk⟩ := Array.getElem?_eq_some_iff.1 (show X.heap[B]? = some (.cells cs T (0, 0)) from h)
  show (X.heap.modify B _)[B]? = _
  rw [Array.getElem?_eq_getElem (by rw [Array.size_modify]; exact hlt), Array.getElem_modify_self, hk]
  rfl
theorem BlkC.other (h : BlkC X B cs T) {B' : Nat} (hne : B ≠ B') (i : Nat) (u : Value) : BlkC (X.setCell ⟨B', i, none⟩ u) B cs T := (Below.heap_setCell X ⟨B', i, none⟩ u B hne).trans h
theorem BlkC.ext (h : BlkC X B cs T) (hE : Ext X Y) : BlkC Y B cs T := (hE.block B h.lt).trans h
theorem BlkC.alloc (h : BlkC X B cs T) (o : Obj) : BlkC (X.alloc o) B cs T := h.ext (ext_alloc X o)
theorem BlkC.grown (h : BlkC X B cs T) {row : Option Nat} (hg : X.grownBy Y row) (hne : some B ≠ row) : BlkC Y B cs T := (hg.block B h.lt hne).trans h
theorem BlkC.appended (h : BlkC X B cs T) {v : Value} {tmp : Obj} (hg : (X.alloc tmp).grownBy Y v.ownBlock) (hne : some B ≠ v.ownBlock) : BlkC Y B cs T := (h.alloc tmp).grown hg hne
theorem row_notnew {base : Nat} {e : TypeId} {size : Nat} {v : Value} {k : Nat} {xs : List Value} (h : X.ownsRow base e size v k xs) : some X.heap.size ≠ v.ownBlock := by
  rcases h.2 with ⟨rfl, _⟩ | ⟨g, cap, cur, rfl, hb, hg, _⟩
  · simp [Value.ownBlock]
  · intro e'
    have hlt := (Array.getElem?_eq_some_iff.1 hg).1
    have : X.heap.size = g := by simpa [Value.ownBlock] using e'
    omega
/-- behind 'out = append(out, ..)': the row's block is the old one or a new one -/
theorem far_keeps {v v' : Value} {B : Nat} (h : some B ≠ v.ownBlock) (hB : B < X.heap.size) (hat : v'.ownBlock = v.ownBlock ∨ v'.ownBlock = some X.heap.size) : some B ≠ v'.ownBlock := by
  rcases hat with e | e
  · rw [e]; exact h
  · rw [e]; intro e2; simp at e2; omega
theorem row_set_other {base : Nat} {e : TypeId} {size : Nat} {v : Value} {k : Nat} {xs : List Value} (h : X.ownsRow base e size v k xs) {B : Nat} (hne : some B ≠ v.ownBlock) (i : Nat) (u : Value) : (X.setCell ⟨B, i, none⟩ u).ownsRow base e size v k xs := by
  refine ⟨h.1, ?_⟩
  rcases h.2 with h0 | ⟨g, cap, cur, rfl, hb, hg, h1, h2, h3⟩
  · exact .inl h0
  · refine .inr ⟨g, cap, cur, rfl, hb, ?_, h1, h2, h3⟩
    have hn : g ≠ B := fun e' => hne (by rw [e']; rfl)
    exact (Below.heap_setCell X ⟨B, i, none⟩ u g hn).trans hg
theorem slice_form {W : World} {base : Nat} {e : TypeId} {size : Nat} {v : Value} {k : Nat} {xs : List Value} (h : W.ownsRow base e size v k xs) : ∃ a cap, v = .slice a k cap := by
  rcases h.2 with ⟨rfl, rfl⟩ | ⟨g, cap, _, rfl, hb, hg, _⟩
  · exact ⟨none, 0, rfl⟩
  · exact ⟨_, cap, rfl⟩
end


/-- a list of numbers (element type T) that lies in the block g, made since the world had the size B -/
def OwnG (W : World) (T : TypeId) (B g n cap : Nat) (l : List Int) : Prop := W.ownsRow B T 1 (.slice (some ⟨g, 0, none⟩) n cap) n (l.map (.int .i64))
section
variable {W X : World} {T : TypeId} {B g n cap : Nat} {l : List Int}
theorem OwnG.len (h : OwnG W T B g n cap l) : l.length = n := by have := h.1; simp at this; omega
theorem OwnG.slot (h : OwnG W T B g n cap l) : g < W.heap.size ∧ n ≤ cap ∧ B ≤ g := by
  rcases h.2 with ⟨e, _⟩ | ⟨g', cap', cur, e, hb, hg, h1, _⟩
  · simp at e
  · simp at e
    obtain ⟨rfl, rfl⟩ := e
    exact ⟨(Array.getElem?_eq_some_iff.1 hg).1, h1, hb⟩
theorem OwnG.cell {i : Nat} (h : OwnG W T B g n cap l) (hi : i < l.length) : W.cell? ⟨g, i, none⟩ = some (.int .i64 (l[i]?.getD 0)) := by
  refine (World.ownsRow.cellAt h i (by have := h.len; omega)).trans ?_
  rw [List.getElem?_map]; simp [hi]
theorem OwnG.store (h : OwnG W T B g n cap l) (i : Nat) (v : Int) : OwnG (W.setCell ⟨g, i, none⟩ (.int .i64 v)) T B g n cap (l.set i v) := by
  have hst := (World.ownsRow.stored h i (.int .i64 v)).1
  rw [← List.map_set] at hst
  exact hst
theorem OwnG.ext (h : OwnG W T B g n cap l) (hE : Ext W X) : OwnG X T B g n cap l := row_ext h hE
theorem OwnG.froz (h : OwnG W T B g n cap l) (i : Nat) : W.frozen? ⟨g, i, none⟩ = false := World.ownsRow.frozenAt h i
theorem OwnG.other {g' : Nat} (h : OwnG W T B g n cap l) (hne : g' ≠ g) (i : Nat) (u : Value) : OwnG (W.setCell ⟨g', i, none⟩ u) T B g n cap l :=
  row_set_other h (by simpa [Value.ownBlock] using hne) i u
theorem OwnG.ints (h : OwnG W T B g n cap l) : Ints W (some ⟨g, 0, none⟩) l := fun j hj => ⟨g, 0, rfl, h.slot.1, by rw [Nat.zero_add]; exact h.cell hj⟩
theorem OwnG.base {B' : Nat} (h : OwnG W T B g n cap l) (hB : B' ≤ B) : OwnG W T B' g n cap l := row_base h hB
end
/-- out = append(out, x): one number -/
theorem wpList_push1 {P : Program} {ops : Array Oper} {rest : List Oper} {o : Oper} {a : Act} {Q : Exit → Act → World → Prop} {w : World} {T0 : TypeId} {i : TypeInfo} {x : Int} {v : Value} {k base : Nat} {xs : List Int} (hgd : o.guard = none) (s xx : Operand) (t : TypeId)
    (ho : o.op = .call { callee := .builtin .append, args := #[s, xx], argTypes := #[t, t] }) (hi : P.info? T0 = some i ∧ i.zero = some (.int .i64 0) ∧ i.size = 1 ∧ i.bytes = 8) (ht : P.underlying t = some (.slice T0))
    (hs : a.eval s = v) (hx : a.eval xx = .slice (some ⟨w.heap.size, 0, none⟩) 1 1) (hown : w.ownsRow base T0 1 v k (xs.map (.int .i64))) (hk : k ≤ 1000000) (hbase : base ≤ w.heap.size)
    (h : ∀ v' w', w'.ownsRow base T0 1 v' (k + 1) ((xs ++ [x]).map (.int .i64)) → (w.alloc (.cells #[.int .i64 x] T0)).grownBy w' v.ownBlock → (v'.ownBlock = v.ownBlock ∨ v'.ownBlock = some (w.alloc (.cells #[.int .i64 x] T0)).heap.size) → wpList P ops Q rest (a.put o.dst v') w') : wpList P ops Q (o :: rest) a (w.alloc (.cells #[.int .i64 x] T0)) := by
  obtain ⟨h2, h3, h4, h5⟩ := hi
  refine wpList_append_any _ hgd s xx t ho base T0 i (.int .i64 0) 1 8 ht h2 h3 h4 h5 rfl (by omega) v k _ hs (hown.alloc _) (w.heap.size + 1) (some ⟨w.heap.size, 0, none⟩) 1 1 [.int .i64 x] hx ⟨rfl, fun _ => ⟨_, rfl, ?_, fun j u' hj => ?_⟩⟩ (by simp [Value.oneCell']) (by unfold maxLen; omega) ?_ (by simp; omega) ?_
  · show w.heap.size < w.heap.size + 1; omega
  · match j, hj with
    | 0, hj => simp at hj; subst hj; rw [add_at]; simp
    | j + 1, hj => simp at hj
  · omega
  · intro v' w' h6 h7 h8
    exact h v' w' (by rw [List.map_append]; exact h6) h7 h8
theorem upon_make {P : Program} {o : Oper} {a : Act} {K : Act → World → Prop} {Q : Exit → Act → World → Prop} {w : World} {t : TypeId} {n : Nat} (base : Nat) (e : TypeId) (i : TypeInfo) (z : Value) (size : Nat) (h1 : P.underlying t = some (.slice e)) (h2 : P.info? e = some i) (h3 : i.zero = some z) (h4 : i.size = size)
    (b2 : i.bytes * n ≤ 281474976710656) (b3 : n ≤ maxLen) (b4 : base ≤ w.heap.size)
    (h : ∀ w', w'.ownsRow base e size (.slice (some ⟨w.heap.size, 0, none⟩) n n) n (madeCells z.cells (n * size)).toList → w.grownBy w' none → K (a.put o.dst (.slice (some ⟨w.heap.size, 0, none⟩) n n)) w') :
    Oper.upon P o a K Q (((Instr.makeSlice t (.int .i64 n) (.int .i64 n)).run P w).andThen fun a w' => Result.ok (Next.value a) w') := by
  obtain ⟨w', hrun, r1, r2⟩ := run_make_full (P := P) w base t e i z size h1 h2 h3 h4 .i64 .i64 n b2 b3 b4
  rw [hrun]
  exact h w' r1 r2
theorem made_own {W : World} {B g n : Nat} (h : W.ownsRow B 3 1 (.slice (some ⟨g, 0, none⟩) n n) n (madeCells (Value.int IntKind.i64 0).cells (n * 1)).toList) : OwnG W 3 B g n n (List.replicate n 0) := by
  rw [show (Value.int IntKind.i64 0).cells = #[.int .i64 0] from rfl, made_one] at h
  unfold OwnG
  rw [List.map_replicate]
  exact h
theorem gi_rep (n j : Nat) (v : Int) (h : j < n) : gi (List.replicate n v) j = v := by unfold gi; rw [List.getElem?_replicate, if_pos h]; rfl
theorem info_p {P : Program} {t : TypeId} {z : Value} {size bytes : Nat} (h : (P.info? t).map (fun i => (i.zero, i.size, i.bytes)) = some (some z, size, bytes)) : ∃ i, P.info? t = some i ∧ i.zero = some z ∧ i.size = size ∧ i.bytes = bytes := by
  cases hi : P.info? t with
  | none => rw [hi] at h; simp at h
  | some i =>
    rw [hi] at h
    simp only [Option.map_some, Option.some.injEq, Prod.mk.injEq] at h
    exact ⟨i, rfl, h.1, h.2.1, h.2.2⟩
/-! pairs -/
def pairsV (b : List (Int × Int)) : List Value := b.flatMap fun q => [.int .i64 q.1, .int .i64 q.2]
theorem pairsV_length (b : List (Int × Int)) : (pairsV b).length = b.length * 2 := by
  induction b with
  | nil => rfl
  | cons s l ih => simp only [pairsV, List.flatMap_cons, List.length_append, List.length_cons, List.length_nil] at ih ⊢; omega
theorem pairsV_cons (m : List (Int × Int)) (x : Int × Int) : pairsV (x :: m) = .int .i64 x.1 :: .int .i64 x.2 :: pairsV m := by simp [pairsV]
theorem pairsV_at : ∀ (b : List (Int × Int)) (i : Nat) (hi : i < b.length), (pairsV b)[i * 2]? = some (.int .i64 b[i].1) ∧ (pairsV b)[i * 2 + 1]? = some (.int .i64 b[i].2)
  | s :: l, 0, _ => by simp [pairsV]
  | s :: l, i + 1, hi => by
    have h := pairsV_at l i (by simpa using hi)
    rw [pairsV_cons, show (i + 1) * 2 = i * 2 + 1 + 1 by omega]
    simpa using h
theorem pairsV_set : ∀ (b : List (Int × Int)) (i : Nat) (_ : i < b.length) (u v : Int), ((pairsV b).set (i * 2) (.int .i64 u)).set (i * 2 + 1) (.int .i64 v) = pairsV (b.set i (u, v))
  | s :: l, 0, _, u, v => by simp [pairsV]
  | s :: l, i + 1, hi, u, v => by
    have h := pairsV_set l i (by simpa using hi) u v
    rw [List.set_cons_succ, pairsV_cons, pairsV_cons, show (i + 1) * 2 = i * 2 + 1 + 1 by omega, List.set_cons_succ, List.set_cons_succ, List.set_cons_succ, List.set_cons_succ, h]
/-- a list of pairs that lies in the block g, made since the world had the size B -/
def OwnP (W : World) (B g n : Nat) (b : List (Int × Int)) : Prop := W.ownsRow B 108 2 (.slice (some ⟨g, 0, none⟩) n n) n (pairsV b)
section
variable {W X : World} {B g n : Nat} {b : List (Int × Int)}
theorem OwnP.len (h : OwnP W B g n b) : b.length = n := by have := h.1; rw [pairsV_length] at this; omega
theorem OwnP.slot (h : OwnP W B g n b) : g < W.heap.size ∧ B ≤ g := by
  rcases h.2 with ⟨e, _⟩ | ⟨g', cap', cur, e, hb, hg, h1, _⟩
  · simp at e
  · simp at e
    obtain ⟨rfl, rfl⟩ := e
    exact ⟨(Array.getElem?_eq_some_iff.1 hg).1, hb⟩
theorem OwnP.cell {i : Nat} (h : OwnP W B g n b) (hi : i < b.length) : W.cell? ⟨g, i * 2, none⟩ = some (.int .i64 (gp b i).1) ∧ W.cell? ⟨g, i * 2 + 1, none⟩ = some (.int .i64 (gp b i).2) := by
  have hl := h.len
  have e : gp b i = b[i] := by simp [gp, hi]
  obtain ⟨a, c⟩ := pairsV_at b i hi
  rw [e]
  exact ⟨(World.ownsRow.cellAt h (i * 2) (by omega)).trans a, (World.ownsRow.cellAt h (i * 2 + 1) (by omega)).trans c⟩
theorem OwnP.store (h : OwnP W B g n b) {i : Nat} (hi : i < b.length) (u v : Int) : OwnP ((W.setCell ⟨g, i * 2, none⟩ (.int .i64 u)).setCell ⟨g, i * 2 + 1, none⟩ (.int .i64 v)) B g n (b.set i (u, v)) := by
  have h1 := (World.ownsRow.stored h (i * 2) (.int .i64 u)).1
  have h2 := (World.ownsRow.stored h1 (i * 2 + 1) (.int .i64 v)).1
  rw [pairsV_set b i hi] at h2
  exact h2
theorem OwnP.ext (h : OwnP W B g n b) (hE : Ext W X) : OwnP X B g n b := row_ext h hE
theorem OwnP.froz (h : OwnP W B g n b) (i : Nat) : W.frozen? ⟨g, i, none⟩ = false := World.ownsRow.frozenAt h i
theorem OwnP.other {g' : Nat} (h : OwnP W B g n b) (hne : g' ≠ g) (i : Nat) (u : Value) : OwnP (W.setCell ⟨g', i, none⟩ u) B g n b :=
  row_set_other h (by simpa [Value.ownBlock] using hne) i u
theorem OwnP.base {B' : Nat} (h : OwnP W B g n b) (hB : B' ≤ B) : OwnP W B' g n b := row_base h hB
end
theorem made_two (n : Nat) : (madeCells #[Value.int .i64 0, .int .i64 0] (n * 2)).toList = pairsV (List.replicate n (0, 0)) := by
  have e : ∀ n, pairsV (List.replicate n ((0, 0) : Int × Int)) = List.replicate (n * 2) (.int .i64 0) := by
    intro n
    induction n with
    | zero => rfl
    | succ n ih => rw [List.replicate_succ, pairsV_cons, ih, show (n + 1) * 2 = n * 2 + 1 + 1 by omega, List.replicate_succ, List.replicate_succ]
  rw [e]
  apply List.ext_getElem (by simp [madeCells])
  intro i h1 h2
  have h3 : i % 2 = 0 ∨ i % 2 = 1 := by omega
  rcases h3 with h | h <;> simp [madeCells, h]
theorem info108 : (Try.prog.info? 108).map (fun i => (i.zero, i.size, i.bytes)) = some (some (.agg #[.int .i64 0, .int .i64 0]), 2, 16) := by kernel_rfl
theorem info3' : (Try.prog.info? 3).map (fun i => (i.zero, i.size, i.bytes)) = some (some (.int .i64 0), 1, 8) := by kernel_rfl
theorem made_pairs {W : World} {B g n : Nat} (h : W.ownsRow B 108 2 (.slice (some ⟨g, 0, none⟩) n n) n (madeCells (Value.agg #[.int .i64 0, .int .i64 0]).cells (n * 2)).toList) : OwnP W B g n (List.replicate n (0, 0)) := by
  rw [show (Value.agg #[.int .i64 0, .int .i64 0]).cells = #[.int .i64 0, .int .i64 0] from rfl, made_two] at h
  exact h
end Go.Proofs.Ytodlbgncdggimaa
