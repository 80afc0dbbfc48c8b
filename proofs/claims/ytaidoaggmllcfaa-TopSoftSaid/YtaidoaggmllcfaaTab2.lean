/- One more number, or one more row, behind a slice of the call's own. No program in sight. -/
import Derived.Test.YtaidoaggmllcfaaTab
namespace Go.Proofs.Ytaidoaggmllcfaa
open Go.RowKit

def InfoOk (P : Program) (T : TypeId) (z : Value) (size bytes : Nat) : Prop := ∃ i, P.info? T = some i ∧ i.zero = some z ∧ i.size = size ∧ i.bytes = bytes
/-- what 'append(v, x)' has done to memory -/
def Push (w : World) (x : Value) (T0 : TypeId) (v v' : Value) (w' : World) : Prop :=
  (w.alloc (.cells #[x] T0)).grownBy w' v.ownBlock ∧ (v'.ownBlock = v.ownBlock ∨ v'.ownBlock = some (w.alloc (.cells #[x] T0)).heap.size)
theorem wpList_push {P : Program} {ops : Array Oper} {rest : List Oper} {o : Oper} {a : Act} {Q : Exit → Act → World → Prop} {w : World} {T0 : TypeId} {z x v : Value} {bytes k base : Nat} {xs : List Value} (hgd : o.guard = none) (s xx : Operand) (t : TypeId)
    (ho : o.op = .call { callee := .builtin .append, args := #[s, xx], argTypes := #[t, t] }) (hi : InfoOk P T0 z 1 bytes) (ht : P.underlying t = some (.slice T0)) (hz : z.cells.size = 1)
    (hs : a.eval s = v) (hx : a.eval xx = .slice (some ⟨w.heap.size, 0, none⟩) 1 1) (h1 : x.oneCell' = true) (hown : w.ownsRow base T0 1 v k xs) (hk : k ≤ 1000000) (hby : bytes ≤ 24) (hbase : base ≤ w.heap.size)
    (h : ∀ v' w', w'.ownsRow base T0 1 v' (k + 1) (xs ++ [x]) → Push w x T0 v v' w' → wpList P ops Q rest (a.put o.dst v') w') : wpList P ops Q (o :: rest) a (w.alloc (.cells #[x] T0)) := by
  obtain ⟨i, h2, h3, h4, h5⟩ := hi
  refine wpList_append_any _ hgd s xx t ho base T0 i z 1 bytes ht h2 h3 h4 h5 hz (by omega) v k xs hs (hown.alloc _) (w.heap.size + 1) (some ⟨w.heap.size, 0, none⟩) 1 1 [x] hx ⟨rfl, fun _ => ⟨_, rfl, ?_, fun j u' hj => ?_⟩⟩ (by simp [h1]) (by unfold maxLen; omega) ?_ (by simp; omega) ?_
  · show w.heap.size < w.heap.size + 1; omega
  · match j, hj with
    | 0, hj => simp at hj; subst hj; rw [add_at]; simp
    | j + 1, hj => simp at hj
  · have : (k + 1) * bytes ≤ (k + 1) * 24 := Nat.mul_le_mul_left _ hby
    omega
  · intro v' w' h6 h7 h8
    exact h v' w' h6 ⟨h7, h8⟩
theorem wpList_push_fits {P : Program} {ops : Array Oper} {rest : List Oper} {o : Oper} {a : Act} {Q : Exit → Act → World → Prop} {w : World} {T0 : TypeId} {z x : Value} {bytes k base g cap : Nat} {xs : List Value} (hgd : o.guard = none) (s xx : Operand) (t : TypeId)
    (ho : o.op = .call { callee := .builtin .append, args := #[s, xx], argTypes := #[t, t] }) (hi : InfoOk P T0 z 1 bytes) (ht : P.underlying t = some (.slice T0))
    (hs : a.eval s = .slice (some ⟨g, 0, none⟩) k cap) (hx : a.eval xx = .slice (some ⟨w.heap.size, 0, none⟩) 1 1) (h1 : x.oneCell' = true) (hown : w.ownsRow base T0 1 (.slice (some ⟨g, 0, none⟩) k cap) k xs) (hk : k + 1 ≤ cap)
    (h : ∀ w', w'.ownsRow base T0 1 (.slice (some ⟨g, 0, none⟩) (k + 1) cap) (k + 1) (xs ++ [x]) → (w.alloc (.cells #[x] T0)).grownBy w' (some g) → wpList P ops Q rest (a.put o.dst (.slice (some ⟨g, 0, none⟩) (k + 1) cap)) w') : wpList P ops Q (o :: rest) a (w.alloc (.cells #[x] T0)) := by
  obtain ⟨i, h2, h3, h4, h5⟩ := hi
  refine wpList_append_fits _ hgd s xx t ho base T0 i 1 ht h2 h4 g k cap xs hs (hown.alloc _) ⟨w.heap.size, 0, none⟩ 1 1 [x] hx rfl (fun j u' hj => ?_) (by simp [h1]) hk h
  match j, hj with
  | 0, hj => simp at hj; subst hj; rw [add_at]; simp
  | j + 1, hj => simp at hj
section
variable {T T0 : TypeId} {w w' W W' X Y : World} {B U base k : Nat} {x v v' : Value} {A : Nat → Option Addr} {C G O : Nat → Nat} {t : Tbl} {l : List Int} {xs : List Value}
theorem row_lt {g n' cap : Nat} {size : Nat} (h : W.ownsRow base T size (.slice (some ⟨g, 0, none⟩) n' cap) k xs) : g < W.heap.size := by
  rcases h.2 with ⟨e, _⟩ | ⟨g2, cap2, cur, e, _, hg, _⟩
  · cases e
  · injection e with e; injection e with e; injection e with e; subst e; exact (Array.getElem?_eq_some_iff.1 hg).1
theorem Push.size (h : Push w x T0 v v' w') : w.heap.size + 1 ≤ w'.heap.size := by have := h.1.size; simpa using this
/-- all that lay below the row's base lies as it lay -/
theorem Push.ext (h : Push w x T0 v v' w') {w0 : World} (hE : Ext w0 w) (hrow : w.ownsRow base T0 1 v k xs) (hb : w0.heap.size ≤ base) : Ext w0 w' := ext_append hE hrow hb h.1
/-- a block other than the row's -/
theorem Push.block (h : Push w x T0 v v' w') {g : Nat} (hg : g < w.heap.size) (hne : some g ≠ v.ownBlock) : w'.heap[g]? = w.heap[g]? :=
  (h.1.block g (by simp; omega) hne).trans (Below.heap_alloc w _ g hg)
theorem Push.cell (h : Push w x T0 v v' w') {g o : Nat} (hg : g < w.heap.size) (hne : some g ≠ v.ownBlock) : w'.cell? ⟨g, o, none⟩ = w.cell? ⟨g, o, none⟩ := World.cell?_of_block (h.block hg hne)
theorem Push.frozen (h : Push w x T0 v v' w') {g o : Nat} (hg : g < w.heap.size) (hne : some g ≠ v.ownBlock) : w'.frozen? ⟨g, o, none⟩ = w.frozen? ⟨g, o, none⟩ := World.frozen?_of_block (w := w) (h.block hg hne)
theorem Push.far (h : Push w x T0 v v' w') {g : Nat} (hg : g < w.heap.size) (hne : some g ≠ v.ownBlock) : some g ≠ v'.ownBlock := by
  rcases h.2 with e | e
  · rw [e]; exact hne
  · rw [e]; intro e2; simp at e2; omega
theorem Push.box (h : Push w x T0 v v' w') {g : Nat} {t : TypeId} {u : Value} (hb : Boxed w g t u) (hne : some g ≠ v.ownBlock) : Boxed w' g t u := (h.block hb.lt hne).trans hb
/-- another row lies as it lay -/
theorem Push.row (h : Push w x T0 v v' w') {u : Value} {b2 k2 size2 : Nat} {T2 : TypeId} {ys : List Value} (hu : w.ownsRow b2 T2 size2 u k2 ys) (hne : ∀ g, u.ownBlock = some g → some g ≠ v.ownBlock) : w'.ownsRow b2 T2 size2 u k2 ys := by
  refine ⟨hu.1, ?_⟩
  rcases hu.2 with h0 | ⟨g, cap, cur, rfl, hb, hg, h1, h2, h3⟩
  · exact .inl h0
  · exact .inr ⟨g, cap, cur, rfl, hb, (h.block (Array.getElem?_eq_some_iff.1 hg).1 (hne g rfl)).trans hg, h1, h2, h3⟩
theorem Push.ints (h : Push w x T0 v v' w') {a : Option Addr} {l : List Int} (hl : Ints w a l) (hne : ∀ b o s, a = some ⟨b, o, s⟩ → some b ≠ v.ownBlock) : Ints w' a l := fun j hj => by
  obtain ⟨b, off, ha, hb, hc⟩ := hl j hj
  refine ⟨b, off, ha, ?_, (h.cell hb (hne b off none ha)).trans hc⟩
  have := h.size; omega

theorem rv_snoc (t : Tbl) (l : List Int) (A A' : Nat → Option Addr) (C C' : Nat → Nat) (a : Option Addr) (c : Nat) (hA : ∀ i, i < t.length → A' i = A i ∧ C' i = C i) (ha : A' t.length = a ∧ C' t.length = c) :
    rv (t ++ [l]) A' C' = rv t A C ++ [.slice a l.length c] := by
  have hr : ∀ i, i < t.length → row (t ++ [l]) i = row t i := fun i hi => by simp [row, List.getElem?_append_left hi]
  have hl : row (t ++ [l]) t.length = l := by simp [row]
  unfold rv
  rw [List.length_append, List.length_singleton, List.range_succ, List.map_append]
  congr 1
  · apply List.map_congr_left
    intro i hi
    rw [List.mem_range] at hi
    rw [(hA i hi).1, (hA i hi).2, hr i hi]
  · simp only [List.map_cons, List.map_nil]; rw [hl, ha.1, ha.2]
/-- one more row behind a table of the call's own -/
theorem OwnL.push {W0 w1 : World} {Bn : Nat} {a : Option Addr} {c : Nat} (h : OwnL T W0 B U v A C G O t) (hE : Ext W0 w1) (hrow : w1.ownsRow Bn T0 1 (.slice a l.length c) l.length (l.map (.int .i64))) (hU : U ≤ Bn) (hB : B ≤ Bn)
    (hP : Push w1 (.slice a l.length c) T v v' w') (hown : w'.ownsRow B T 1 v' (t.length + 1) (rv t A C ++ [.slice a l.length c])) : OwnT T w' B w'.heap.size v' (t ++ [l]) := by
  have hsz := hP.size
  have hE0 := hE.size
  have hup := h.upto
  have hvb : ∀ g, U ≤ g → some g ≠ v.ownBlock := fun g hg e => by have := h.blk g e.symm; omega
  have hr : ∀ i, i < t.length → row (t ++ [l]) i = row t i := fun i hi => by simp [row, List.getElem?_append_left hi]
  have hl : row (t ++ [l]) t.length = l := by simp [row]
  let gn : Nat := match a with | some ⟨b, _, _⟩ => b | none => 0
  refine ⟨fun i => if i < t.length then A i else a, fun i => if i < t.length then C i else c, fun i => if i < t.length then G i else gn, fun i => if i < t.length then O i else 0, Nat.le_refl _, ?_, ?_, ?_, ?_⟩
  · rw [rv_snoc t l A _ C _ a c (fun i hi => by simp [hi]) (by simp), List.length_append]
    exact hown
  · intro g hg
    rcases hP.2 with e | e
    · have := h.blk g (by rw [← e, hg]); omega
    · rw [e] at hg; simp at hg
      rcases hown.2 with ⟨e2, _⟩ | ⟨g2, cap, cur, e2, _, hg2, _⟩
      · rw [e2] at e; simp [Value.ownBlock] at e
      · have := (Array.getElem?_eq_some_iff.1 hg2).1
        rw [e2] at e; simp [Value.ownBlock] at e; omega
  · intro i hi
    rw [List.length_append, List.length_singleton] at hi
    by_cases hit : i < t.length
    · simp only [hit, if_true]
      rw [hr i hit]
      intro h0
      obtain ⟨k1, k2, k3, k4, k5⟩ := h.rows i hit h0
      have hlt : G i < w1.heap.size := by omega
      refine ⟨k1, k2, by omega, hP.far hlt k4, fun j hj => ⟨?_, ?_⟩⟩
      · exact (hP.cell hlt k4).trans ((hE.cell' (by omega)).trans (k5 j hj).1)
      · exact (hP.frozen hlt k4).trans ((hE.frozen (p := ⟨G i, O i + j, none⟩) (by show G i < _; omega)).trans (k5 j hj).2)
    · obtain rfl : i = t.length := by omega
      simp only [hit, if_false]
      rw [hl]
      intro h0
      obtain ⟨g, cap, hv, hb, hlt⟩ := ownsRow_form hrow h0
      injection hv with hv1 hv2 hv3
      subst hv1
      have hne := hvb g (by omega)
      refine ⟨rfl, by show B ≤ g; omega, by show g < _; omega, hP.far hlt hne, fun j hj => ⟨?_, ?_⟩⟩
      · refine (hP.cell hlt hne).trans ?_
        rw [Nat.zero_add]
        exact (row_cell hrow (by rw [List.getElem?_map, List.getElem?_eq_getElem hj, Option.map_some])).trans (by rw [gi_get hj])
      · refine (hP.frozen hlt hne).trans ?_
        rcases hrow.2 with ⟨e, h00⟩ | ⟨g2, cap2, cur, e2, _, hg2, _⟩
        · omega
        · injection e2 with e3 e4 e5
          injection e3 with e3
          injection e3 with e3
          subst e3
          simp [World.frozen?, hg2]
  · intro i q hi hq hne
    rw [List.length_append, List.length_singleton] at hi hq
    have new_far : ∀ i, i < t.length → 0 < (row t i).length → 0 < l.length → G i ≠ gn := fun i hi h0 hl0 => by
      obtain ⟨_, _, k3, _, _⟩ := h.rows i hi h0
      obtain ⟨g, cap, hv, hb, hlt⟩ := ownsRow_form hrow hl0
      injection hv with hv1 hv2 hv3
      subst hv1
      show G i ≠ g
      omega
    by_cases h1 : i < t.length
    · by_cases h2 : q < t.length
      · simp only [h1, h2, if_true]
        rw [hr i h1, hr q h2]
        exact h.apart i q h1 h2 hne
      · obtain rfl : q = t.length := by omega
        simp only [h1, h2, if_true, if_false]
        rw [hr i h1, hl]
        exact fun a b => .inl (new_far i h1 a b)
    · obtain rfl : i = t.length := by omega
      have h2 : q < t.length := by omega
      simp only [h1, h2, if_true, if_false]
      rw [hr q h2, hl]
      exact fun a b => .inl (new_far q h2 b a).symm
theorem OwnL.push2 {W0 w1 : World} {Bn n k : Nat} {a : Option Addr} {c : Nat} (l : List Int) (hn : l.length = n) (hk : t.length = k) (h : OwnL T W0 B U v A C G O t) (hE : Ext W0 w1) (hrow : w1.ownsRow Bn T0 1 (.slice a n c) n (l.map (.int .i64))) (hU : U ≤ Bn) (hB : B ≤ Bn)
    (hP : Push w1 (.slice a n c) T v v' w') (hown : w'.ownsRow B T 1 v' (k + 1) (rv t A C ++ [.slice a n c])) : OwnT T w' B w'.heap.size v' (t ++ [l]) := by
  subst hn hk
  exact h.push hE hrow hU hB hP hown
/-- a table of the call's own, read -/
theorem OwnT.table (h : OwnT T W B U v t) : ∃ a c, v = .slice a t.length c ∧ Table W a t := by
  obtain ⟨A, C, G, O, h⟩ := h
  rcases h.own.2 with ⟨rfl, h0⟩ | ⟨g, cap, cur, rfl, hb, hg, h1, h2, h3, h4⟩
  · exact ⟨none, 0, by rw [h0], fun j hj => by omega⟩
  · refine ⟨_, cap, rfl, fun j hj => ?_⟩
    have hc := row_cell h.own (rv_at (A := A) (C := C) hj)
    refine ⟨g, 0, A j, C j, rfl, (Array.getElem?_eq_some_iff.1 hg).1, ?_, ?_⟩
    · rw [Nat.zero_add, ← row_at hj]; exact hc
    · rw [← row_at hj]; exact h.row_ints hj
/-- what a call hands back that makes a table -/
def RetT (T : TypeId) (t : Tbl) (w : World) (e : Ending) (w' : World) : Prop := ∃ v, e = .returned v ∧ OwnT T w' w.heap.size w'.heap.size v t ∧ Ext w w'
/-- .. a table and an error -/
def RetTE (T : TypeId) (t : Tbl) (err : Int) (w : World) (e : Ending) (w' : World) : Prop := ∃ v, e = .returned (.tuple #[v, .int .i64 err]) ∧ OwnT T w' w.heap.size w'.heap.size v t ∧ Ext w w'
theorem retTE_nil {T : TypeId} {w w' : World} {e : Int} (hE : Ext w w') : RetTE T [] e w (.returned (.tuple #[.slice none 0 0, .int .i64 e])) w' := ⟨_, rfl, ⟨fun _ => none, fun _ => 0, fun _ => 0, fun _ => 0, Nat.le_refl _, World.ownsRow_nil _ _ _ _, fun g hg => by simp [Value.ownBlock] at hg, fun i hi => by simp at hi, fun i k hi => by simp at hi⟩, hE⟩
end
end Go.Proofs.Ytaidoaggmllcfaa
