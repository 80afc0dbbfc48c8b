/- Flat records that a slice holds, read as lists; slices of slices. Printed by wip/gen/genrec.py. -/
import Derived.Deep.Slices
import Derived.Deep.Fields
import Derived.ChangeSame
import Derived.OpenShut
import Derived.ProofKit
import Derived.Lib.SmallJoins
import Derived.Test.YtfhgnmijigdlmaaApp0
namespace Go.Proofs.Ytfhgnmijigdlmaa
open Go.ChangeShapes Go.WideShapes Go.ChangeAt Go.RowKit Go.Deep

structure Atom where
  p : Int
  m : Int
  deriving DecidableEq, Inhabited
def Atoms (w : World) (a : Option Addr) (l : List Atom) : Prop :=
  ∀ j, (hj : j < l.length) → ∃ b off, a = some ⟨b, off, none⟩ ∧ b < w.heap.size ∧ w.cell? ⟨b, off + j * 2, none⟩ = some (.int .i64 l[j].p) ∧ w.cell? ⟨b, off + j * 2 + 1, none⟩ = some (.int .i64 l[j].m)
theorem Atoms.ext {w w' : World} {a : Option Addr} {l : List Atom} (h : Atoms w a l) (hE : Ext w w') : Atoms w' a l := fun j hj => by
  obtain ⟨b, off, ha, hb, h1, h2⟩ := h j hj
  exact ⟨b, off, ha, Nat.lt_of_lt_of_le hb hE.size, (hE.cell' hb).trans h1, (hE.cell' hb).trans h2⟩
def atomV (l : List Atom) : List Value := l.flatMap fun s => [.int .i64 s.p, .int .i64 s.m]
theorem atomV_length (l : List Atom) : (atomV l).length = l.length * 2 := by
  induction l with
  | nil => rfl
  | cons s l ih => simp only [atomV, List.flatMap_cons, List.length_append, List.length_cons, List.length_nil] at ih ⊢; omega
theorem atomV_append (l k : List Atom) : atomV (l ++ k) = atomV l ++ atomV k := by simp [atomV]
theorem atomV_one (s : Atom) : atomV [s] = [.int .i64 s.p, .int .i64 s.m] := by simp [atomV]
theorem atomV_at : ∀ (l : List Atom) (i : Nat) (hi : i < l.length), (atomV l)[i * 2]? = some (.int .i64 l[i].p) ∧ (atomV l)[i * 2 + 1]? = some (.int .i64 l[i].m)
  | s :: l, 0, _ => by simp [atomV]
  | s :: l, i + 1, hi => by
    have h := atomV_at l i (by simpa using hi)
    have e : atomV (s :: l) = [.int .i64 s.p, .int .i64 s.m] ++ atomV l := by simp [atomV]
    rw [e]
    refine ⟨?_, ?_⟩
    · rw [List.getElem?_append_right (by simp; omega), show (i + 1) * 2 - [Value.int .i64 s.p, .int .i64 s.m].length = i * 2 by simp; omega]; exact h.1
    · rw [List.getElem?_append_right (by simp; omega), show (i + 1) * 2 + 1 - [Value.int .i64 s.p, .int .i64 s.m].length = i * 2 + 1 by simp; omega]; exact h.2
theorem atomV_one_cell (l : List Atom) : ∀ u ∈ atomV l, u.oneCell' = true := by
  intro u hu
  simp only [atomV, List.mem_flatMap] at hu
  obtain ⟨s, _, hs⟩ := hu
  simp at hs
  rcases hs with rfl | rfl <;> rfl
theorem reads_atoms {w : World} {a : Option Addr} {l : List Atom} (h : Atoms w a l) : Reads w w.heap.size 2 a l.length (atomV l) := by
  refine ⟨atomV_length l, fun h0 => ?_⟩
  obtain ⟨b, off, rfl, hb, _⟩ := h 0 h0
  refine ⟨_, rfl, hb, fun j u hu => ?_⟩
  rw [add_at]
  have hj : j < l.length * 2 := by
    have := (List.getElem?_eq_some_iff.1 hu).1
    rwa [atomV_length] at this
  have hi : j / 2 < l.length := by omega
  obtain ⟨b', off', he, _, c0, c1⟩ := h (j / 2) hi
  simp only [Option.some.injEq, Addr.mk.injEq] at he
  obtain ⟨rfl, rfl, -⟩ := he
  obtain ⟨v0, v1⟩ := atomV_at l (j / 2) hi
  have h3 : j % 2 = 0 ∨ j % 2 = 1 := by omega
  rcases h3 with h3 | h3
  · have e : j = j / 2 * 2 := by omega
    rw [e] at hu ⊢
    rw [v0] at hu
    rw [← hu]; exact c0
  · have e : j = j / 2 * 2 + 1 := by omega
    rw [e] at hu ⊢
    rw [v1] at hu
    rw [← hu]; exact c1
theorem atoms_of_row {w : World} {base n : Nat} {v : Value} {T : TypeId} {l : List Atom} (h : w.ownsRow base T 2 v n (atomV l)) : ∃ a c, v = .slice a l.length c ∧ Atoms w a l := by
  have hn : l.length = n := by have := h.1; rw [atomV_length] at this; omega
  rcases h.2 with ⟨rfl, h0⟩ | ⟨g, cap, cur, rfl, hb, hg, h1, h2, h3, h4⟩
  · exact ⟨none, 0, by rw [hn, h0], fun j hj => by omega⟩
  · refine ⟨_, cap, by rw [hn], fun j hj => ⟨g, 0, rfl, (Array.getElem?_eq_some_iff.1 hg).1, ?_⟩⟩
    obtain ⟨v0, v1⟩ := atomV_at l j hj
    have c0 := h.cells (g := g) rfl _ _ v0
    have c1 := h.cells (g := g) rfl _ _ v1
    rw [add_at] at c0 c1
    exact ⟨c0, by simpa [Nat.add_assoc] using c1⟩
theorem atoms_new1 (w : World) (s : Atom) (T : TypeId) : Atoms (w.alloc (.cells #[.int .i64 s.p, .int .i64 s.m] T)) (some ⟨w.heap.size, 0, none⟩) [s] := by
  intro j hj
  refine ⟨_, _, rfl, by simp, ?_⟩
  match j, hj with
  | 0, _ => simp
theorem atomV_set0 : ∀ (l : List Atom) (k : Nat) (hk : k < l.length) (n : Int), (atomV l).set (k * 2) (.int .i64 n) = atomV (l.set k { l[k] with p := n })
  | s :: l, 0, _, n => by simp [atomV]
  | s :: l, k + 1, hk, n => by
    have h := atomV_set0 l k (by simpa using hk) n
    have e : ∀ (t : Atom) (m : List Atom), atomV (t :: m) = [.int .i64 t.p, .int .i64 t.m] ++ atomV m := fun t m => by simp [atomV]
    rw [List.set_cons_succ, e, e, List.set_append_right _ _ (by simp; omega), show (k + 1) * 2 - [Value.int .i64 s.p, .int .i64 s.m].length = k * 2 by simp; omega, h]
    rfl
theorem atomV_set1 : ∀ (l : List Atom) (k : Nat) (hk : k < l.length) (n : Int), (atomV l).set (k * 2 + 1) (.int .i64 n) = atomV (l.set k { l[k] with m := n })
  | s :: l, 0, _, n => by simp [atomV]
  | s :: l, k + 1, hk, n => by
    have h := atomV_set1 l k (by simpa using hk) n
    have e : ∀ (t : Atom) (m : List Atom), atomV (t :: m) = [.int .i64 t.p, .int .i64 t.m] ++ atomV m := fun t m => by simp [atomV]
    rw [List.set_cons_succ, e, e, List.set_append_right _ _ (by simp; omega), show (k + 1) * 2 + 1 - [Value.int .i64 s.p, .int .i64 s.m].length = k * 2 + 1 by simp; omega, h]
    rfl
section
variable {H : Type} {enc : TypeId × Value → H} {P : Program} {w : World} {base : Nat} {spare : Nat → Bool} {held : Bool}
theorem read_atoms {t e ti : TypeId} {f0 f1 : Field} {fuel : Nat} {a : Option Addr} {len cap : Nat} {x : DataW H × List MemPlace} (ht : P.underlying t = some (.slice e)) (he : P.underlying e = some (.struct #[f0, f1]))
    (hone : oneCellFields P #[f0, f1] = true) (hC : P.cellsOf e = 2) (hi : P.underlying ti = some (.int .i64)) (h0 : f0.type = ti) (h1 : f1.type = ti)
    (h : DataW.trod enc P w base spare held fuel t [.slice a len cap] = some x) : ∃ l : List Atom, l.length = len ∧ Atoms w a l := by
  rcases open_slice_fields ht he hone hC h with ⟨hcs, _⟩ | ⟨ad, l', c', m, D, Pl, hcs, _, hl, _, hm, _, hf⟩
  · simp at hcs
    obtain ⟨rfl, rfl, rfl⟩ := hcs
    exact ⟨[], rfl, fun j hj => by simp at hj⟩
  · simp at hcs
    obtain ⟨rfl, rfl, rfl⟩ := hcs
    have hlm : len ≤ m := by rw [hm]; split <;> omega
    have each : ∀ i, i < len → ∃ s : Atom, w.cell? (ad.add (i * 2 + 0)) = some (.int .i64 s.p) ∧ w.cell? (ad.add (i * 2 + 1)) = some (.int .i64 s.m) := by
      intro i hi'
      obtain ⟨ys, n, _, _, _, hg⟩ := hf i (by omega)
      obtain ⟨v0, y0, c0, _, t0⟩ := hg 0 f0 rfl
      obtain ⟨v1, y1, c1, _, t1⟩ := hg 1 f1 rfl
      rw [h0] at t0
      obtain ⟨n0, e0, _⟩ := DataW.trod_int hi t0
      rw [h1] at t1
      obtain ⟨n1, e1, _⟩ := DataW.trod_int hi t1
      simp at e0 e1
      subst e0 e1
      exact ⟨⟨n0, n1⟩, c0, c1⟩
    let S : Nat → Atom := fun i => if hi' : i < len then Classical.choose (each i hi') else default
    refine ⟨(List.range len).map S, by simp, fun j hj => ?_⟩
    have hj' : j < len := by simpa using hj
    have hS : S j = Classical.choose (each j hj') := by simp [S, hj']
    obtain ⟨k0, k1⟩ := Classical.choose_spec (each j hj')
    rw [← hS] at k0 k1
    obtain ⟨sz, z0, _⟩ := each 0 (by omega)
    have z1 : w.cell? (ad.add 0) = some (.int .i64 sz.p) := by simpa using z0
    obtain ⟨b, off, rfl, hb⟩ := spot_none z1
    rw [add_at] at k0 k1
    refine ⟨b, off, rfl, hb, ?_⟩
    simp only [List.getElem_map, List.getElem_range]
    exact ⟨by simpa using k0, by simpa [Nat.add_assoc] using k1⟩
end

structure Rat where
  num : Int
  den : Int
  deriving DecidableEq, Inhabited
def Rats (w : World) (a : Option Addr) (l : List Rat) : Prop :=
  ∀ j, (hj : j < l.length) → ∃ b off, a = some ⟨b, off, none⟩ ∧ b < w.heap.size ∧ w.cell? ⟨b, off + j * 2, none⟩ = some (.int .i64 l[j].num) ∧ w.cell? ⟨b, off + j * 2 + 1, none⟩ = some (.int .i64 l[j].den)
theorem Rats.ext {w w' : World} {a : Option Addr} {l : List Rat} (h : Rats w a l) (hE : Ext w w') : Rats w' a l := fun j hj => by
  obtain ⟨b, off, ha, hb, h1, h2⟩ := h j hj
  exact ⟨b, off, ha, Nat.lt_of_lt_of_le hb hE.size, (hE.cell' hb).trans h1, (hE.cell' hb).trans h2⟩
def ratV (l : List Rat) : List Value := l.flatMap fun s => [.int .i64 s.num, .int .i64 s.den]
theorem ratV_length (l : List Rat) : (ratV l).length = l.length * 2 := by
  induction l with
  | nil => rfl
  | cons s l ih => simp only [ratV, List.flatMap_cons, List.length_append, List.length_cons, List.length_nil] at ih ⊢; omega
theorem ratV_append (l k : List Rat) : ratV (l ++ k) = ratV l ++ ratV k := by simp [ratV]
theorem ratV_one (s : Rat) : ratV [s] = [.int .i64 s.num, .int .i64 s.den] := by simp [ratV]
theorem ratV_at : ∀ (l : List Rat) (i : Nat) (hi : i < l.length), (ratV l)[i * 2]? = some (.int .i64 l[i].num) ∧ (ratV l)[i * 2 + 1]? = some (.int .i64 l[i].den)
  | s :: l, 0, _ => by simp [ratV]
  | s :: l, i + 1, hi => by
    have h := ratV_at l i (by simpa using hi)
    have e : ratV (s :: l) = [.int .i64 s.num, .int .i64 s.den] ++ ratV l := by simp [ratV]
    rw [e]
    refine ⟨?_, ?_⟩
    · rw [List.getElem?_append_right (by simp; omega), show (i + 1) * 2 - [Value.int .i64 s.num, .int .i64 s.den].length = i * 2 by simp; omega]; exact h.1
    · rw [List.getElem?_append_right (by simp; omega), show (i + 1) * 2 + 1 - [Value.int .i64 s.num, .int .i64 s.den].length = i * 2 + 1 by simp; omega]; exact h.2
theorem ratV_one_cell (l : List Rat) : ∀ u ∈ ratV l, u.oneCell' = true := by
  intro u hu
  simp only [ratV, List.mem_flatMap] at hu
  obtain ⟨s, _, hs⟩ := hu
  simp at hs
  rcases hs with rfl | rfl <;> rfl
theorem reads_rats {w : World} {a : Option Addr} {l : List Rat} (h : Rats w a l) : Reads w w.heap.size 2 a l.length (ratV l) := by
  refine ⟨ratV_length l, fun h0 => ?_⟩
  obtain ⟨b, off, rfl, hb, _⟩ := h 0 h0
  refine ⟨_, rfl, hb, fun j u hu => ?_⟩
  rw [add_at]
  have hj : j < l.length * 2 := by
    have := (List.getElem?_eq_some_iff.1 hu).1
    rwa [ratV_length] at this
  have hi : j / 2 < l.length := by omega
  obtain ⟨b', off', he, _, c0, c1⟩ := h (j / 2) hi
  simp only [Option.some.injEq, Addr.mk.injEq] at he
  obtain ⟨rfl, rfl, -⟩ := he
  obtain ⟨v0, v1⟩ := ratV_at l (j / 2) hi
  have h3 : j % 2 = 0 ∨ j % 2 = 1 := by omega
  rcases h3 with h3 | h3
  · have e : j = j / 2 * 2 := by omega
    rw [e] at hu ⊢
    rw [v0] at hu
    rw [← hu]; exact c0
  · have e : j = j / 2 * 2 + 1 := by omega
    rw [e] at hu ⊢
    rw [v1] at hu
    rw [← hu]; exact c1
theorem rats_of_row {w : World} {base n : Nat} {v : Value} {T : TypeId} {l : List Rat} (h : w.ownsRow base T 2 v n (ratV l)) : ∃ a c, v = .slice a l.length c ∧ Rats w a l := by
  have hn : l.length = n := by have := h.1; rw [ratV_length] at this; omega
  rcases h.2 with ⟨rfl, h0⟩ | ⟨g, cap, cur, rfl, hb, hg, h1, h2, h3, h4⟩
  · exact ⟨none, 0, by rw [hn, h0], fun j hj => by omega⟩
  · refine ⟨_, cap, by rw [hn], fun j hj => ⟨g, 0, rfl, (Array.getElem?_eq_some_iff.1 hg).1, ?_⟩⟩
    obtain ⟨v0, v1⟩ := ratV_at l j hj
    have c0 := h.cells (g := g) rfl _ _ v0
    have c1 := h.cells (g := g) rfl _ _ v1
    rw [add_at] at c0 c1
    exact ⟨c0, by simpa [Nat.add_assoc] using c1⟩
theorem rats_new1 (w : World) (s : Rat) (T : TypeId) : Rats (w.alloc (.cells #[.int .i64 s.num, .int .i64 s.den] T)) (some ⟨w.heap.size, 0, none⟩) [s] := by
  intro j hj
  refine ⟨_, _, rfl, by simp, ?_⟩
  match j, hj with
  | 0, _ => simp
theorem ratV_set0 : ∀ (l : List Rat) (k : Nat) (hk : k < l.length) (n : Int), (ratV l).set (k * 2) (.int .i64 n) = ratV (l.set k { l[k] with num := n })
  | s :: l, 0, _, n => by simp [ratV]
  | s :: l, k + 1, hk, n => by
    have h := ratV_set0 l k (by simpa using hk) n
    have e : ∀ (t : Rat) (m : List Rat), ratV (t :: m) = [.int .i64 t.num, .int .i64 t.den] ++ ratV m := fun t m => by simp [ratV]
    rw [List.set_cons_succ, e, e, List.set_append_right _ _ (by simp; omega), show (k + 1) * 2 - [Value.int .i64 s.num, .int .i64 s.den].length = k * 2 by simp; omega, h]
    rfl
theorem ratV_set1 : ∀ (l : List Rat) (k : Nat) (hk : k < l.length) (n : Int), (ratV l).set (k * 2 + 1) (.int .i64 n) = ratV (l.set k { l[k] with den := n })
  | s :: l, 0, _, n => by simp [ratV]
  | s :: l, k + 1, hk, n => by
    have h := ratV_set1 l k (by simpa using hk) n
    have e : ∀ (t : Rat) (m : List Rat), ratV (t :: m) = [.int .i64 t.num, .int .i64 t.den] ++ ratV m := fun t m => by simp [ratV]
    rw [List.set_cons_succ, e, e, List.set_append_right _ _ (by simp; omega), show (k + 1) * 2 + 1 - [Value.int .i64 s.num, .int .i64 s.den].length = k * 2 + 1 by simp; omega, h]
    rfl
section
variable {H : Type} {enc : TypeId × Value → H} {P : Program} {w : World} {base : Nat} {spare : Nat → Bool} {held : Bool}
theorem read_rats {t e ti : TypeId} {f0 f1 : Field} {fuel : Nat} {a : Option Addr} {len cap : Nat} {x : DataW H × List MemPlace} (ht : P.underlying t = some (.slice e)) (he : P.underlying e = some (.struct #[f0, f1]))
    (hone : oneCellFields P #[f0, f1] = true) (hC : P.cellsOf e = 2) (hi : P.underlying ti = some (.int .i64)) (h0 : f0.type = ti) (h1 : f1.type = ti)
    (h : DataW.trod enc P w base spare held fuel t [.slice a len cap] = some x) : ∃ l : List Rat, l.length = len ∧ Rats w a l := by
  rcases open_slice_fields ht he hone hC h with ⟨hcs, _⟩ | ⟨ad, l', c', m, D, Pl, hcs, _, hl, _, hm, _, hf⟩
  · simp at hcs
    obtain ⟨rfl, rfl, rfl⟩ := hcs
    exact ⟨[], rfl, fun j hj => by simp at hj⟩
  · simp at hcs
    obtain ⟨rfl, rfl, rfl⟩ := hcs
    have hlm : len ≤ m := by rw [hm]; split <;> omega
    have each : ∀ i, i < len → ∃ s : Rat, w.cell? (ad.add (i * 2 + 0)) = some (.int .i64 s.num) ∧ w.cell? (ad.add (i * 2 + 1)) = some (.int .i64 s.den) := by
      intro i hi'
      obtain ⟨ys, n, _, _, _, hg⟩ := hf i (by omega)
      obtain ⟨v0, y0, c0, _, t0⟩ := hg 0 f0 rfl
      obtain ⟨v1, y1, c1, _, t1⟩ := hg 1 f1 rfl
      rw [h0] at t0
      obtain ⟨n0, e0, _⟩ := DataW.trod_int hi t0
      rw [h1] at t1
      obtain ⟨n1, e1, _⟩ := DataW.trod_int hi t1
      simp at e0 e1
      subst e0 e1
      exact ⟨⟨n0, n1⟩, c0, c1⟩
    let S : Nat → Rat := fun i => if hi' : i < len then Classical.choose (each i hi') else default
    refine ⟨(List.range len).map S, by simp, fun j hj => ?_⟩
    have hj' : j < len := by simpa using hj
    have hS : S j = Classical.choose (each j hj') := by simp [S, hj']
    obtain ⟨k0, k1⟩ := Classical.choose_spec (each j hj')
    rw [← hS] at k0 k1
    obtain ⟨sz, z0, _⟩ := each 0 (by omega)
    have z1 : w.cell? (ad.add 0) = some (.int .i64 sz.num) := by simpa using z0
    obtain ⟨b, off, rfl, hb⟩ := spot_none z1
    rw [add_at] at k0 k1
    refine ⟨b, off, rfl, hb, ?_⟩
    simp only [List.getElem_map, List.getElem_range]
    exact ⟨by simpa using k0, by simpa [Nat.add_assoc] using k1⟩
end

structure Move where
  fr : Int
  to : Int
  m : Int
  deriving DecidableEq, Inhabited
def Moves (w : World) (a : Option Addr) (l : List Move) : Prop :=
  ∀ j, (hj : j < l.length) → ∃ b off, a = some ⟨b, off, none⟩ ∧ b < w.heap.size ∧ w.cell? ⟨b, off + j * 3, none⟩ = some (.int .i64 l[j].fr) ∧ w.cell? ⟨b, off + j * 3 + 1, none⟩ = some (.int .i64 l[j].to) ∧ w.cell? ⟨b, off + j * 3 + 2, none⟩ = some (.int .i64 l[j].m)
theorem Moves.ext {w w' : World} {a : Option Addr} {l : List Move} (h : Moves w a l) (hE : Ext w w') : Moves w' a l := fun j hj => by
  obtain ⟨b, off, ha, hb, h1, h2, h3⟩ := h j hj
  exact ⟨b, off, ha, Nat.lt_of_lt_of_le hb hE.size, (hE.cell' hb).trans h1, (hE.cell' hb).trans h2, (hE.cell' hb).trans h3⟩
def moveV (l : List Move) : List Value := l.flatMap fun s => [.int .i64 s.fr, .int .i64 s.to, .int .i64 s.m]
theorem moveV_length (l : List Move) : (moveV l).length = l.length * 3 := by
  induction l with
  | nil => rfl
  | cons s l ih => simp only [moveV, List.flatMap_cons, List.length_append, List.length_cons, List.length_nil] at ih ⊢; omega
theorem moveV_append (l k : List Move) : moveV (l ++ k) = moveV l ++ moveV k := by simp [moveV]
theorem moveV_one (s : Move) : moveV [s] = [.int .i64 s.fr, .int .i64 s.to, .int .i64 s.m] := by simp [moveV]
theorem moveV_at : ∀ (l : List Move) (i : Nat) (hi : i < l.length), (moveV l)[i * 3]? = some (.int .i64 l[i].fr) ∧ (moveV l)[i * 3 + 1]? = some (.int .i64 l[i].to) ∧ (moveV l)[i * 3 + 2]? = some (.int .i64 l[i].m)
  | s :: l, 0, _ => by simp [moveV]
  | s :: l, i + 1, hi => by
    have h := moveV_at l i (by simpa using hi)
    have e : moveV (s :: l) = [.int .i64 s.fr, .int .i64 s.to, .int .i64 s.m] ++ moveV l := by simp [moveV]
    rw [e]
    refine ⟨?_, ?_, ?_⟩
    · rw [List.getElem?_append_right (by simp; omega), show (i + 1) * 3 - [Value.int .i64 s.fr, .int .i64 s.to, .int .i64 s.m].length = i * 3 by simp; omega]; exact h.1
    · rw [List.getElem?_append_right (by simp; omega), show (i + 1) * 3 + 1 - [Value.int .i64 s.fr, .int .i64 s.to, .int .i64 s.m].length = i * 3 + 1 by simp; omega]; exact h.2.1
    · rw [List.getElem?_append_right (by simp; omega), show (i + 1) * 3 + 2 - [Value.int .i64 s.fr, .int .i64 s.to, .int .i64 s.m].length = i * 3 + 2 by simp; omega]; exact h.2.2
theorem moveV_one_cell (l : List Move) : ∀ u ∈ moveV l, u.oneCell' = true := by
  intro u hu
  simp only [moveV, List.mem_flatMap] at hu
  obtain ⟨s, _, hs⟩ := hu
  simp at hs
  rcases hs with rfl | rfl | rfl <;> rfl
theorem reads_moves {w : World} {a : Option Addr} {l : List Move} (h : Moves w a l) : Reads w w.heap.size 3 a l.length (moveV l) := by
  refine ⟨moveV_length l, fun h0 => ?_⟩
  obtain ⟨b, off, rfl, hb, _⟩ := h 0 h0
  refine ⟨_, rfl, hb, fun j u hu => ?_⟩
  rw [add_at]
  have hj : j < l.length * 3 := by
    have := (List.getElem?_eq_some_iff.1 hu).1
    rwa [moveV_length] at this
  have hi : j / 3 < l.length := by omega
  obtain ⟨b', off', he, _, c0, c1, c2⟩ := h (j / 3) hi
  simp only [Option.some.injEq, Addr.mk.injEq] at he
  obtain ⟨rfl, rfl, -⟩ := he
  obtain ⟨v0, v1, v2⟩ := moveV_at l (j / 3) hi
  have h3 : j % 3 = 0 ∨ j % 3 = 1 ∨ j % 3 = 2 := by omega
  rcases h3 with h3 | h3 | h3
  · have e : j = j / 3 * 3 := by omega
    rw [e] at hu ⊢
    rw [v0] at hu
    rw [← hu]; exact c0
  · have e : j = j / 3 * 3 + 1 := by omega
    rw [e] at hu ⊢
    rw [v1] at hu
    rw [← hu]; exact c1
  · have e : j = j / 3 * 3 + 2 := by omega
    rw [e] at hu ⊢
    rw [v2] at hu
    rw [← hu]; exact c2
theorem moves_of_row {w : World} {base n : Nat} {v : Value} {T : TypeId} {l : List Move} (h : w.ownsRow base T 3 v n (moveV l)) : ∃ a c, v = .slice a l.length c ∧ Moves w a l := by
  have hn : l.length = n := by have := h.1; rw [moveV_length] at this; omega
  rcases h.2 with ⟨rfl, h0⟩ | ⟨g, cap, cur, rfl, hb, hg, h1, h2, h3, h4⟩
  · exact ⟨none, 0, by rw [hn, h0], fun j hj => by omega⟩
  · refine ⟨_, cap, by rw [hn], fun j hj => ⟨g, 0, rfl, (Array.getElem?_eq_some_iff.1 hg).1, ?_⟩⟩
    obtain ⟨v0, v1, v2⟩ := moveV_at l j hj
    have c0 := h.cells (g := g) rfl _ _ v0
    have c1 := h.cells (g := g) rfl _ _ v1
    have c2 := h.cells (g := g) rfl _ _ v2
    rw [add_at] at c0 c1 c2
    exact ⟨c0, by simpa [Nat.add_assoc] using c1, by simpa [Nat.add_assoc] using c2⟩
theorem moves_new1 (w : World) (s : Move) (T : TypeId) : Moves (w.alloc (.cells #[.int .i64 s.fr, .int .i64 s.to, .int .i64 s.m] T)) (some ⟨w.heap.size, 0, none⟩) [s] := by
  intro j hj
  refine ⟨_, _, rfl, by simp, ?_⟩
  match j, hj with
  | 0, _ => simp
theorem moveV_set0 : ∀ (l : List Move) (k : Nat) (hk : k < l.length) (n : Int), (moveV l).set (k * 3) (.int .i64 n) = moveV (l.set k { l[k] with fr := n })
  | s :: l, 0, _, n => by simp [moveV]
  | s :: l, k + 1, hk, n => by
    have h := moveV_set0 l k (by simpa using hk) n
    have e : ∀ (t : Move) (m : List Move), moveV (t :: m) = [.int .i64 t.fr, .int .i64 t.to, .int .i64 t.m] ++ moveV m := fun t m => by simp [moveV]
    rw [List.set_cons_succ, e, e, List.set_append_right _ _ (by simp; omega), show (k + 1) * 3 - [Value.int .i64 s.fr, .int .i64 s.to, .int .i64 s.m].length = k * 3 by simp; omega, h]
    rfl
theorem moveV_set1 : ∀ (l : List Move) (k : Nat) (hk : k < l.length) (n : Int), (moveV l).set (k * 3 + 1) (.int .i64 n) = moveV (l.set k { l[k] with to := n })
  | s :: l, 0, _, n => by simp [moveV]
  | s :: l, k + 1, hk, n => by
    have h := moveV_set1 l k (by simpa using hk) n
    have e : ∀ (t : Move) (m : List Move), moveV (t :: m) = [.int .i64 t.fr, .int .i64 t.to, .int .i64 t.m] ++ moveV m := fun t m => by simp [moveV]
    rw [List.set_cons_succ, e, e, List.set_append_right _ _ (by simp; omega), show (k + 1) * 3 + 1 - [Value.int .i64 s.fr, .int .i64 s.to, .int .i64 s.m].length = k * 3 + 1 by simp; omega, h]
    rfl
theorem moveV_set2 : ∀ (l : List Move) (k : Nat) (hk : k < l.length) (n : Int), (moveV l).set (k * 3 + 2) (.int .i64 n) = moveV (l.set k { l[k] with m := n })
  | s :: l, 0, _, n => by simp [moveV]
  | s :: l, k + 1, hk, n => by
    have h := moveV_set2 l k (by simpa using hk) n
    have e : ∀ (t : Move) (m : List Move), moveV (t :: m) = [.int .i64 t.fr, .int .i64 t.to, .int .i64 t.m] ++ moveV m := fun t m => by simp [moveV]
    rw [List.set_cons_succ, e, e, List.set_append_right _ _ (by simp; omega), show (k + 1) * 3 + 2 - [Value.int .i64 s.fr, .int .i64 s.to, .int .i64 s.m].length = k * 3 + 2 by simp; omega, h]
    rfl
section
variable {H : Type} {enc : TypeId × Value → H} {P : Program} {w : World} {base : Nat} {spare : Nat → Bool} {held : Bool}
theorem read_moves {t e ti : TypeId} {f0 f1 f2 : Field} {fuel : Nat} {a : Option Addr} {len cap : Nat} {x : DataW H × List MemPlace} (ht : P.underlying t = some (.slice e)) (he : P.underlying e = some (.struct #[f0, f1, f2]))
    (hone : oneCellFields P #[f0, f1, f2] = true) (hC : P.cellsOf e = 3) (hi : P.underlying ti = some (.int .i64)) (h0 : f0.type = ti) (h1 : f1.type = ti) (h2 : f2.type = ti)
    (h : DataW.trod enc P w base spare held fuel t [.slice a len cap] = some x) : ∃ l : List Move, l.length = len ∧ Moves w a l := by
  rcases open_slice_fields ht he hone hC h with ⟨hcs, _⟩ | ⟨ad, l', c', m, D, Pl, hcs, _, hl, _, hm, _, hf⟩
  · simp at hcs
    obtain ⟨rfl, rfl, rfl⟩ := hcs
    exact ⟨[], rfl, fun j hj => by simp at hj⟩
  · simp at hcs
    obtain ⟨rfl, rfl, rfl⟩ := hcs
    have hlm : len ≤ m := by rw [hm]; split <;> omega
    have each : ∀ i, i < len → ∃ s : Move, w.cell? (ad.add (i * 3 + 0)) = some (.int .i64 s.fr) ∧ w.cell? (ad.add (i * 3 + 1)) = some (.int .i64 s.to) ∧ w.cell? (ad.add (i * 3 + 2)) = some (.int .i64 s.m) := by
      intro i hi'
      obtain ⟨ys, n, _, _, _, hg⟩ := hf i (by omega)
      obtain ⟨v0, y0, c0, _, t0⟩ := hg 0 f0 rfl
      obtain ⟨v1, y1, c1, _, t1⟩ := hg 1 f1 rfl
      obtain ⟨v2, y2, c2, _, t2⟩ := hg 2 f2 rfl
      rw [h0] at t0
      obtain ⟨n0, e0, _⟩ := DataW.trod_int hi t0
      rw [h1] at t1
      obtain ⟨n1, e1, _⟩ := DataW.trod_int hi t1
      rw [h2] at t2
      obtain ⟨n2, e2, _⟩ := DataW.trod_int hi t2
      simp at e0 e1 e2
      subst e0 e1 e2
      exact ⟨⟨n0, n1, n2⟩, c0, c1, c2⟩
    let S : Nat → Move := fun i => if hi' : i < len then Classical.choose (each i hi') else default
    refine ⟨(List.range len).map S, by simp, fun j hj => ?_⟩
    have hj' : j < len := by simpa using hj
    have hS : S j = Classical.choose (each j hj') := by simp [S, hj']
    obtain ⟨k0, k1, k2⟩ := Classical.choose_spec (each j hj')
    rw [← hS] at k0 k1 k2
    obtain ⟨sz, z0, _⟩ := each 0 (by omega)
    have z1 : w.cell? (ad.add 0) = some (.int .i64 sz.fr) := by simpa using z0
    obtain ⟨b, off, rfl, hb⟩ := spot_none z1
    rw [add_at] at k0 k1 k2
    refine ⟨b, off, rfl, hb, ?_⟩
    simp only [List.getElem_map, List.getElem_range]
    exact ⟨by simpa using k0, by simpa [Nat.add_assoc] using k1, by simpa [Nat.add_assoc] using k2⟩
end

structure Opn where
  p : Int
  m : Int
  l : Int
  deriving DecidableEq, Inhabited
def Opns (w : World) (a : Option Addr) (l : List Opn) : Prop :=
  ∀ j, (hj : j < l.length) → ∃ b off, a = some ⟨b, off, none⟩ ∧ b < w.heap.size ∧ w.cell? ⟨b, off + j * 3, none⟩ = some (.int .i64 l[j].p) ∧ w.cell? ⟨b, off + j * 3 + 1, none⟩ = some (.int .i64 l[j].m) ∧ w.cell? ⟨b, off + j * 3 + 2, none⟩ = some (.int .i64 l[j].l)
theorem Opns.ext {w w' : World} {a : Option Addr} {l : List Opn} (h : Opns w a l) (hE : Ext w w') : Opns w' a l := fun j hj => by
  obtain ⟨b, off, ha, hb, h1, h2, h3⟩ := h j hj
  exact ⟨b, off, ha, Nat.lt_of_lt_of_le hb hE.size, (hE.cell' hb).trans h1, (hE.cell' hb).trans h2, (hE.cell' hb).trans h3⟩
def opnV (l : List Opn) : List Value := l.flatMap fun s => [.int .i64 s.p, .int .i64 s.m, .int .i64 s.l]
theorem opnV_length (l : List Opn) : (opnV l).length = l.length * 3 := by
  induction l with
  | nil => rfl
  | cons s l ih => simp only [opnV, List.flatMap_cons, List.length_append, List.length_cons, List.length_nil] at ih ⊢; omega
theorem opnV_append (l k : List Opn) : opnV (l ++ k) = opnV l ++ opnV k := by simp [opnV]
theorem opnV_one (s : Opn) : opnV [s] = [.int .i64 s.p, .int .i64 s.m, .int .i64 s.l] := by simp [opnV]
theorem opnV_at : ∀ (l : List Opn) (i : Nat) (hi : i < l.length), (opnV l)[i * 3]? = some (.int .i64 l[i].p) ∧ (opnV l)[i * 3 + 1]? = some (.int .i64 l[i].m) ∧ (opnV l)[i * 3 + 2]? = some (.int .i64 l[i].l)
  | s :: l, 0, _ => by simp [opnV]
  | s :: l, i + 1, hi => by
    have h := opnV_at l i (by simpa using hi)
    have e : opnV (s :: l) = [.int .i64 s.p, .int .i64 s.m, .int .i64 s.l] ++ opnV l := by simp [opnV]
    rw [e]
    refine ⟨?_, ?_, ?_⟩
    · rw [List.getElem?_append_right (by simp; omega), show (i + 1) * 3 - [Value.int .i64 s.p, .int .i64 s.m, .int .i64 s.l].length = i * 3 by simp; omega]; exact h.1
    · rw [List.getElem?_append_right (by simp; omega), show (i + 1) * 3 + 1 - [Value.int .i64 s.p, .int .i64 s.m, .int .i64 s.l].length = i * 3 + 1 by simp; omega]; exact h.2.1
    · rw [List.getElem?_append_right (by simp; omega), show (i + 1) * 3 + 2 - [Value.int .i64 s.p, .int .i64 s.m, .int .i64 s.l].length = i * 3 + 2 by simp; omega]; exact h.2.2
theorem opnV_one_cell (l : List Opn) : ∀ u ∈ opnV l, u.oneCell' = true := by
  intro u hu
  simp only [opnV, List.mem_flatMap] at hu
  obtain ⟨s, _, hs⟩ := hu
  simp at hs
  rcases hs with rfl | rfl | rfl <;> rfl
theorem reads_opns {w : World} {a : Option Addr} {l : List Opn} (h : Opns w a l) : Reads w w.heap.size 3 a l.length (opnV l) := by
  refine ⟨opnV_length l, fun h0 => ?_⟩
  obtain ⟨b, off, rfl, hb, _⟩ := h 0 h0
  refine ⟨_, rfl, hb, fun j u hu => ?_⟩
  rw [add_at]
  have hj : j < l.length * 3 := by
    have := (List.getElem?_eq_some_iff.1 hu).1
    rwa [opnV_length] at this
  have hi : j / 3 < l.length := by omega
  obtain ⟨b', off', he, _, c0, c1, c2⟩ := h (j / 3) hi
  simp only [Option.some.injEq, Addr.mk.injEq] at he
  obtain ⟨rfl, rfl, -⟩ := he
  obtain ⟨v0, v1, v2⟩ := opnV_at l (j / 3) hi
  have h3 : j % 3 = 0 ∨ j % 3 = 1 ∨ j % 3 = 2 := by omega
  rcases h3 with h3 | h3 | h3
  · have e : j = j / 3 * 3 := by omega
    rw [e] at hu ⊢
    rw [v0] at hu
    rw [← hu]; exact c0
  · have e : j = j / 3 * 3 + 1 := by omega
    rw [e] at hu ⊢
    rw [v1] at hu
    rw [← hu]; exact c1
  · have e : j = j / 3 * 3 + 2 := by omega
    rw [e] at hu ⊢
    rw [v2] at hu
    rw [← hu]; exact c2
theorem opns_of_row {w : World} {base n : Nat} {v : Value} {T : TypeId} {l : List Opn} (h : w.ownsRow base T 3 v n (opnV l)) : ∃ a c, v = .slice a l.length c ∧ Opns w a l := by
  have hn : l.length = n := by have := h.1; rw [opnV_length] at this; omega
  rcases h.2 with ⟨rfl, h0⟩ | ⟨g, cap, cur, rfl, hb, hg, h1, h2, h3, h4⟩
  · exact ⟨none, 0, by rw [hn, h0], fun j hj => by omega⟩
  · refine ⟨_, cap, by rw [hn], fun j hj => ⟨g, 0, rfl, (Array.getElem?_eq_some_iff.1 hg).1, ?_⟩⟩
    obtain ⟨v0, v1, v2⟩ := opnV_at l j hj
    have c0 := h.cells (g := g) rfl _ _ v0
    have c1 := h.cells (g := g) rfl _ _ v1
    have c2 := h.cells (g := g) rfl _ _ v2
    rw [add_at] at c0 c1 c2
    exact ⟨c0, by simpa [Nat.add_assoc] using c1, by simpa [Nat.add_assoc] using c2⟩
theorem opns_new1 (w : World) (s : Opn) (T : TypeId) : Opns (w.alloc (.cells #[.int .i64 s.p, .int .i64 s.m, .int .i64 s.l] T)) (some ⟨w.heap.size, 0, none⟩) [s] := by
  intro j hj
  refine ⟨_, _, rfl, by simp, ?_⟩
  match j, hj with
  | 0, _ => simp
theorem opnV_set0 : ∀ (l : List Opn) (k : Nat) (hk : k < l.length) (n : Int), (opnV l).set (k * 3) (.int .i64 n) = opnV (l.set k { l[k] with p := n })
  | s :: l, 0, _, n => by simp [opnV]
  | s :: l, k + 1, hk, n => by
    have h := opnV_set0 l k (by simpa using hk) n
    have e : ∀ (t : Opn) (m : List Opn), opnV (t :: m) = [.int .i64 t.p, .int .i64 t.m, .int .i64 t.l] ++ opnV m := fun t m => by simp [opnV]
    rw [List.set_cons_succ, e, e, List.set_append_right _ _ (by simp; omega), show (k + 1) * 3 - [Value.int .i64 s.p, .int .i64 s.m, .int .i64 s.l].length = k * 3 by simp; omega, h]
    rfl
theorem opnV_set1 : ∀ (l : List Opn) (k : Nat) (hk : k < l.length) (n : Int), (opnV l).set (k * 3 + 1) (.int .i64 n) = opnV (l.set k { l[k] with m := n })
  | s :: l, 0, _, n => by simp [opnV]
  | s :: l, k + 1, hk, n => by
    have h := opnV_set1 l k (by simpa using hk) n
    have e : ∀ (t : Opn) (m : List Opn), opnV (t :: m) = [.int .i64 t.p, .int .i64 t.m, .int .i64 t.l] ++ opnV m := fun t m => by simp [opnV]
    rw [List.set_cons_succ, e, e, List.set_append_right _ _ (by simp; omega), show (k + 1) * 3 + 1 - [Value.int .i64 s.p, .int .i64 s.m, .int .i64 s.l].length = k * 3 + 1 by simp; omega, h]
    rfl
theorem opnV_set2 : ∀ (l : List Opn) (k : Nat) (hk : k < l.length) (n : Int), (opnV l).set (k * 3 + 2) (.int .i64 n) = opnV (l.set k { l[k] with l := n })
  | s :: l, 0, _, n => by simp [opnV]
  | s :: l, k + 1, hk, n => by
    have h := opnV_set2 l k (by simpa using hk) n
    have e : ∀ (t : Opn) (m : List Opn), opnV (t :: m) = [.int .i64 t.p, .int .i64 t.m, .int .i64 t.l] ++ opnV m := fun t m => by simp [opnV]
    rw [List.set_cons_succ, e, e, List.set_append_right _ _ (by simp; omega), show (k + 1) * 3 + 2 - [Value.int .i64 s.p, .int .i64 s.m, .int .i64 s.l].length = k * 3 + 2 by simp; omega, h]
    rfl
section
variable {H : Type} {enc : TypeId × Value → H} {P : Program} {w : World} {base : Nat} {spare : Nat → Bool} {held : Bool}
theorem read_opns {t e ti : TypeId} {f0 f1 f2 : Field} {fuel : Nat} {a : Option Addr} {len cap : Nat} {x : DataW H × List MemPlace} (ht : P.underlying t = some (.slice e)) (he : P.underlying e = some (.struct #[f0, f1, f2]))
    (hone : oneCellFields P #[f0, f1, f2] = true) (hC : P.cellsOf e = 3) (hi : P.underlying ti = some (.int .i64)) (h0 : f0.type = ti) (h1 : f1.type = ti) (h2 : f2.type = ti)
    (h : DataW.trod enc P w base spare held fuel t [.slice a len cap] = some x) : ∃ l : List Opn, l.length = len ∧ Opns w a l := by
  rcases open_slice_fields ht he hone hC h with ⟨hcs, _⟩ | ⟨ad, l', c', m, D, Pl, hcs, _, hl, _, hm, _, hf⟩
  · simp at hcs
    obtain ⟨rfl, rfl, rfl⟩ := hcs
    exact ⟨[], rfl, fun j hj => by simp at hj⟩
  · simp at hcs
    obtain ⟨rfl, rfl, rfl⟩ := hcs
    have hlm : len ≤ m := by rw [hm]; split <;> omega
    have each : ∀ i, i < len → ∃ s : Opn, w.cell? (ad.add (i * 3 + 0)) = some (.int .i64 s.p) ∧ w.cell? (ad.add (i * 3 + 1)) = some (.int .i64 s.m) ∧ w.cell? (ad.add (i * 3 + 2)) = some (.int .i64 s.l) := by
      intro i hi'
      obtain ⟨ys, n, _, _, _, hg⟩ := hf i (by omega)
      obtain ⟨v0, y0, c0, _, t0⟩ := hg 0 f0 rfl
      obtain ⟨v1, y1, c1, _, t1⟩ := hg 1 f1 rfl
      obtain ⟨v2, y2, c2, _, t2⟩ := hg 2 f2 rfl
      rw [h0] at t0
      obtain ⟨n0, e0, _⟩ := DataW.trod_int hi t0
      rw [h1] at t1
      obtain ⟨n1, e1, _⟩ := DataW.trod_int hi t1
      rw [h2] at t2
      obtain ⟨n2, e2, _⟩ := DataW.trod_int hi t2
      simp at e0 e1 e2
      subst e0 e1 e2
      exact ⟨⟨n0, n1, n2⟩, c0, c1, c2⟩
    let S : Nat → Opn := fun i => if hi' : i < len then Classical.choose (each i hi') else default
    refine ⟨(List.range len).map S, by simp, fun j hj => ?_⟩
    have hj' : j < len := by simpa using hj
    have hS : S j = Classical.choose (each j hj') := by simp [S, hj']
    obtain ⟨k0, k1, k2⟩ := Classical.choose_spec (each j hj')
    rw [← hS] at k0 k1 k2
    obtain ⟨sz, z0, _⟩ := each 0 (by omega)
    have z1 : w.cell? (ad.add 0) = some (.int .i64 sz.p) := by simpa using z0
    obtain ⟨b, off, rfl, hb⟩ := spot_none z1
    rw [add_at] at k0 k1 k2
    refine ⟨b, off, rfl, hb, ?_⟩
    simp only [List.getElem_map, List.getElem_range]
    exact ⟨by simpa using k0, by simpa [Nat.add_assoc] using k1, by simpa [Nat.add_assoc] using k2⟩
end

/-- a slice of slices -/
def Loads (w : World) (a : Option Addr) (l : List (List Atom)) : Prop :=
  ∀ j, (hj : j < l.length) → ∃ b off a' c', a = some ⟨b, off, none⟩ ∧ b < w.heap.size ∧ w.cell? ⟨b, off + j, none⟩ = some (.slice a' l[j].length c') ∧ Atoms w a' l[j]
theorem Loads.ext {w w' : World} {a : Option Addr} {l : List (List Atom)} (h : Loads w a l) (hE : Ext w w') : Loads w' a l := fun j hj => by
  obtain ⟨b, off, a', c', ha, hb, h1, h2⟩ := h j hj
  exact ⟨b, off, a', c', ha, Nat.lt_of_lt_of_le hb hE.size, (hE.cell' hb).trans h1, h2.ext hE⟩
section
variable {H : Type} {enc : TypeId × Value → H} {P : Program} {w : World} {base : Nat} {spare : Nat → Bool} {held : Bool}
theorem read_loads {t u : TypeId} {fuel : Nat} {a : Option Addr} {len cap : Nat} {x : DataW H × List MemPlace} (ht : P.underlying t = some (.slice u)) (hC : P.cellsOf u = 1)
    (hu : ∃ e, P.underlying u = some (.slice e)) (hin : ∀ (n : Nat) (a' : Option Addr) (len' cap' : Nat) (y : DataW H × List MemPlace), DataW.trod enc P w base spare held n u [.slice a' len' cap'] = some y → ∃ l : List Atom, l.length = len' ∧ Atoms w a' l)
    (h : DataW.trod enc P w base spare held fuel t [.slice a len cap] = some x) : ∃ l : List (List Atom), l.length = len ∧ Loads w a l := by
  rcases open_slice ht h with ⟨hcs, _⟩ | ⟨ad, l', c', m, n, D, Pl, hcs, _, hl, _, hm, _, hi⟩
  · simp at hcs
    obtain ⟨rfl, rfl, rfl⟩ := hcs
    exact ⟨[], rfl, fun j hj => by simp at hj⟩
  · simp at hcs
    obtain ⟨rfl, rfl, rfl⟩ := hcs
    have hlm : len ≤ m := by rw [hm]; split <;> omega
    have each : ∀ i, i < len → ∃ (l : List Atom) (a' : Option Addr) (c' : Nat), w.cell? (ad.add i) = some (.slice a' l.length c') ∧ Atoms w a' l := by
      intro i hi'
      obtain ⟨cs', hc, ht'⟩ := hi i (by omega)
      rw [hC] at hc
      obtain ⟨_, hcl, hat⟩ := World.cells?_some hc
      have h0 := hat 0 (by omega)
      match cs', hcl with
      | [v], _ =>
        obtain ⟨e, he⟩ := hu
        have hv : ∃ a' len' cap', v = .slice a' len' cap' := by
          rcases DataW.trod_slice he ht' with ⟨h1, _⟩ | ⟨a', len', cap', _, _, _, _, h1, _⟩
          · exact ⟨none, 0, 0, by simpa using h1⟩
          · exact ⟨some a', len', cap', by simpa using h1⟩
        obtain ⟨a', len', cap', rfl⟩ := hv
        obtain ⟨l, rfl, hl'⟩ := hin _ _ _ _ _ ht'
        refine ⟨l, a', cap', ?_, hl'⟩
        have e0 : (ad.add (i * 1)).add 0 = ad.add i := by rw [Nat.mul_one]; simp [Addr.add]
        rw [e0] at h0
        exact h0
    let S : Nat → List Atom := fun i => if hi' : i < len then Classical.choose (each i hi') else default
    refine ⟨(List.range len).map S, by simp, fun j hj => ?_⟩
    have hj' : j < len := by simpa using hj
    have hS : S j = Classical.choose (each j hj') := by simp [S, hj']
    obtain ⟨a', c', k0, k1⟩ := Classical.choose_spec (each j hj')
    rw [← hS] at k0 k1
    obtain ⟨sz, az, cz, z0, _⟩ := each 0 (by omega)
    obtain ⟨b, off, rfl, hb⟩ := spot_none z0
    rw [add_at] at k0
    refine ⟨b, off, a', c', rfl, hb, ?_⟩
    simp only [List.getElem_map, List.getElem_range]
    exact ⟨k0, k1⟩
end

end Go.Proofs.Ytfhgnmijigdlmaa
