/- Flat records that a slice holds, read as lists; slices of slices. Printed by wip/gen/genrec.py. -/
import Derived.Deep.Slices
import Derived.Deep.Fields
import Derived.ChangeSame
import Derived.OpenShut
import Derived.ProofKit
import Derived.Lib.SmallJoins
import Derived.Test.YtbejgbflipoboaaApp0
namespace Go.Proofs.Ytbejgbflipoboaa
open Go.ChangeShapes Go.WideShapes Go.ChangeAt Go.RowKit Go.Deep

structure Rarc where
  fr : Int
  to : Int
  ln : Int
  rd : Int
  wy : Int
  deriving DecidableEq, Inhabited
def Rarcs (w : World) (a : Option Addr) (l : List Rarc) : Prop :=
  ∀ j, (hj : j < l.length) → ∃ b off, a = some ⟨b, off, none⟩ ∧ b < w.heap.size ∧ w.cell? ⟨b, off + j * 5, none⟩ = some (.int .i64 l[j].fr) ∧ w.cell? ⟨b, off + j * 5 + 1, none⟩ = some (.int .i64 l[j].to) ∧ w.cell? ⟨b, off + j * 5 + 2, none⟩ = some (.int .i64 l[j].ln) ∧ w.cell? ⟨b, off + j * 5 + 3, none⟩ = some (.int .i64 l[j].rd) ∧ w.cell? ⟨b, off + j * 5 + 4, none⟩ = some (.int .i64 l[j].wy)
theorem Rarcs.ext {w w' : World} {a : Option Addr} {l : List Rarc} (h : Rarcs w a l) (hE : Ext w w') : Rarcs w' a l := fun j hj => by
  obtain ⟨b, off, ha, hb, h1, h2, h3, h4, h5⟩ := h j hj
  exact ⟨b, off, ha, Nat.lt_of_lt_of_le hb hE.size, (hE.cell' hb).trans h1, (hE.cell' hb).trans h2, (hE.cell' hb).trans h3, (hE.cell' hb).trans h4, (hE.cell' hb).trans h5⟩
def rarcV (l : List Rarc) : List Value := l.flatMap fun s => [.int .i64 s.fr, .int .i64 s.to, .int .i64 s.ln, .int .i64 s.rd, .int .i64 s.wy]
theorem rarcV_length (l : List Rarc) : (rarcV l).length = l.length * 5 := by
  induction l with
  | nil => rfl
  | cons s l ih => simp only [rarcV, List.flatMap_cons, List.length_append, List.length_cons, List.length_nil] at ih ⊢; omega
theorem rarcV_append (l k : List Rarc) : rarcV (l ++ k) = rarcV l ++ rarcV k := by simp [rarcV]
theorem rarcV_one (s : Rarc) : rarcV [s] = [.int .i64 s.fr, .int .i64 s.to, .int .i64 s.ln, .int .i64 s.rd, .int .i64 s.wy] := by simp [rarcV]
theorem rarcV_at : ∀ (l : List Rarc) (i : Nat) (hi : i < l.length), (rarcV l)[i * 5]? = some (.int .i64 l[i].fr) ∧ (rarcV l)[i * 5 + 1]? = some (.int .i64 l[i].to) ∧ (rarcV l)[i * 5 + 2]? = some (.int .i64 l[i].ln) ∧ (rarcV l)[i * 5 + 3]? = some (.int .i64 l[i].rd) ∧ (rarcV l)[i * 5 + 4]? = some (.int .i64 l[i].wy)
  | s :: l, 0, _ => by simp [rarcV]
  | s :: l, i + 1, hi => by
    have h := rarcV_at l i (by simpa using hi)
    have e : rarcV (s :: l) = [.int .i64 s.fr, .int .i64 s.to, .int .i64 s.ln, .int .i64 s.rd, .int .i64 s.wy] ++ rarcV l := by simp [rarcV]
    rw [e]
    refine ⟨?_, ?_, ?_, ?_, ?_⟩
    · rw [List.getElem?_append_right (by simp; omega), show (i + 1) * 5 - [Value.int .i64 s.fr, .int .i64 s.to, .int .i64 s.ln, .int .i64 s.rd, .int .i64 s.wy].length = i * 5 by simp; omega]; exact h.1
    · rw [List.getElem?_append_right (by simp; omega), show (i + 1) * 5 + 1 - [Value.int .i64 s.fr, .int .i64 s.to, .int .i64 s.ln, .int .i64 s.rd, .int .i64 s.wy].length = i * 5 + 1 by simp; omega]; exact h.2.1
    · rw [List.getElem?_append_right (by simp; omega), show (i + 1) * 5 + 2 - [Value.int .i64 s.fr, .int .i64 s.to, .int .i64 s.ln, .int .i64 s.rd, .int .i64 s.wy].length = i * 5 + 2 by simp; omega]; exact h.2.2.1
    · rw [List.getElem?_append_right (by simp; omega), show (i + 1) * 5 + 3 - [Value.int .i64 s.fr, .int .i64 s.to, .int .i64 s.ln, .int .i64 s.rd, .int .i64 s.wy].length = i * 5 + 3 by simp; omega]; exact h.2.2.2.1
    · rw [List.getElem?_append_right (by simp; omega), show (i + 1) * 5 + 4 - [Value.int .i64 s.fr, .int .i64 s.to, .int .i64 s.ln, .int .i64 s.rd, .int .i64 s.wy].length = i * 5 + 4 by simp; omega]; exact h.2.2.2.2
theorem rarcV_one_cell (l : List Rarc) : ∀ u ∈ rarcV l, u.oneCell' = true := by
  intro u hu
  simp only [rarcV, List.mem_flatMap] at hu
  obtain ⟨s, _, hs⟩ := hu
  simp at hs
  rcases hs with rfl | rfl | rfl | rfl | rfl <;> rfl
theorem reads_rarcs {w : World} {a : Option Addr} {l : List Rarc} (h : Rarcs w a l) : Reads w w.heap.size 5 a l.length (rarcV l) := by
  refine ⟨rarcV_length l, fun h0 => ?_⟩
  obtain ⟨b, off, rfl, hb, _⟩ := h 0 h0
  refine ⟨_, rfl, hb, fun j u hu => ?_⟩
  rw [add_at]
  have hj : j < l.length * 5 := by
    have := (List.getElem?_eq_some_iff.1 hu).1
    rwa [rarcV_length] at this
  have hi : j / 5 < l.length := by omega
  obtain ⟨b', off', he, _, c0, c1, c2, c3, c4⟩ := h (j / 5) hi
  simp only [Option.some.injEq, Addr.mk.injEq] at he
  obtain ⟨rfl, rfl, -⟩ := he
  obtain ⟨v0, v1, v2, v3, v4⟩ := rarcV_at l (j / 5) hi
  have h3 : j % 5 = 0 ∨ j % 5 = 1 ∨ j % 5 = 2 ∨ j % 5 = 3 ∨ j % 5 = 4 := by omega
  rcases h3 with h3 | h3 | h3 | h3 | h3
  · have e : j = j / 5 * 5 := by omega
    rw [e] at hu ⊢
    rw [v0] at hu
    rw [← hu]; exact c0
  · have e : j = j / 5 * 5 + 1 := by omega
    rw [e] at hu ⊢
    rw [v1] at hu
    rw [← hu]; exact c1
  · have e : j = j / 5 * 5 + 2 := by omega
    rw [e] at hu ⊢
    rw [v2] at hu
    rw [← hu]; exact c2
  · have e : j = j / 5 * 5 + 3 := by omega
    rw [e] at hu ⊢
    rw [v3] at hu
    rw [← hu]; exact c3
  · have e : j = j / 5 * 5 + 4 := by omega
    rw [e] at hu ⊢
    rw [v4] at hu
    rw [← hu]; exact c4
theorem rarcs_of_row {w : World} {base n : Nat} {v : Value} {T : TypeId} {l : List Rarc} (h : w.ownsRow base T 5 v n (rarcV l)) : ∃ a c, v = .slice a l.length c ∧ Rarcs w a l := by
  have hn : l.length = n := by have := h.1; rw [rarcV_length] at this; omega
  rcases h.2 with ⟨rfl, h0⟩ | ⟨g, cap, cur, rfl, hb, hg, h1, h2, h3, h4⟩
  · exact ⟨none, 0, by rw [hn, h0], fun j hj => by omega⟩
  · refine ⟨_, cap, by rw [hn], fun j hj => ⟨g, 0, rfl, (Array.getElem?_eq_some_iff.1 hg).1, ?_⟩⟩
    obtain ⟨v0, v1, v2, v3, v4⟩ := rarcV_at l j hj
    have c0 := h.cells (g := g) rfl _ _ v0
    have c1 := h.cells (g := g) rfl _ _ v1
    have c2 := h.cells (g := g) rfl _ _ v2
    have c3 := h.cells (g := g) rfl _ _ v3
    have c4 := h.cells (g := g) rfl _ _ v4
    rw [add_at] at c0 c1 c2 c3 c4
    exact ⟨c0, by simpa [Nat.add_assoc] using c1, by simpa [Nat.add_assoc] using c2, by simpa [Nat.add_assoc] using c3, by simpa [Nat.add_assoc] using c4⟩
theorem rarcs_new1 (w : World) (s : Rarc) (T : TypeId) : Rarcs (w.alloc (.cells #[.int .i64 s.fr, .int .i64 s.to, .int .i64 s.ln, .int .i64 s.rd, .int .i64 s.wy] T)) (some ⟨w.heap.size, 0, none⟩) [s] := by
  intro j hj
  refine ⟨_, _, rfl, by simp, ?_⟩
  match j, hj with
  | 0, _ => simp
theorem rarcV_set0 : ∀ (l : List Rarc) (k : Nat) (hk : k < l.length) (n : Int), (rarcV l).set (k * 5) (.int .i64 n) = rarcV (l.set k { l[k] with fr := n })
  | s :: l, 0, _, n => by simp [rarcV]
  | s :: l, k + 1, hk, n => by
    have h := rarcV_set0 l k (by simpa using hk) n
    have e : ∀ (t : Rarc) (m : List Rarc), rarcV (t :: m) = [.int .i64 t.fr, .int .i64 t.to, .int .i64 t.ln, .int .i64 t.rd, .int .i64 t.wy] ++ rarcV m := fun t m => by simp [rarcV]
    rw [List.set_cons_succ, e, e, List.set_append_right _ _ (by simp; omega), show (k + 1) * 5 - [Value.int .i64 s.fr, .int .i64 s.to, .int .i64 s.ln, .int .i64 s.rd, .int .i64 s.wy].length = k * 5 by simp; omega, h]
    rfl
theorem rarcV_set1 : ∀ (l : List Rarc) (k : Nat) (hk : k < l.length) (n : Int), (rarcV l).set (k * 5 + 1) (.int .i64 n) = rarcV (l.set k { l[k] with to := n })
  | s :: l, 0, _, n => by simp [rarcV]
  | s :: l, k + 1, hk, n => by
    have h := rarcV_set1 l k (by simpa using hk) n
    have e : ∀ (t : Rarc) (m : List Rarc), rarcV (t :: m) = [.int .i64 t.fr, .int .i64 t.to, .int .i64 t.ln, .int .i64 t.rd, .int .i64 t.wy] ++ rarcV m := fun t m => by simp [rarcV]
    rw [List.set_cons_succ, e, e, List.set_append_right _ _ (by simp; omega), show (k + 1) * 5 + 1 - [Value.int .i64 s.fr, .int .i64 s.to, .int .i64 s.ln, .int .i64 s.rd, .int .i64 s.wy].length = k * 5 + 1 by simp; omega, h]
    rfl
theorem rarcV_set2 : ∀ (l : List Rarc) (k : Nat) (hk : k < l.length) (n : Int), (rarcV l).set (k * 5 + 2) (.int .i64 n) = rarcV (l.set k { l[k] with ln := n })
  | s :: l, 0, _, n => by simp [rarcV]
  | s :: l, k + 1, hk, n => by
    have h := rarcV_set2 l k (by simpa using hk) n
    have e : ∀ (t : Rarc) (m : List Rarc), rarcV (t :: m) = [.int .i64 t.fr, .int .i64 t.to, .int .i64 t.ln, .int .i64 t.rd, .int .i64 t.wy] ++ rarcV m := fun t m => by simp [rarcV]
    rw [List.set_cons_succ, e, e, List.set_append_right _ _ (by simp; omega), show (k + 1) * 5 + 2 - [Value.int .i64 s.fr, .int .i64 s.to, .int .i64 s.ln, .int .i64 s.rd, .int .i64 s.wy].length = k * 5 + 2 by simp; omega, h]
    rfl
theorem rarcV_set3 : ∀ (l : List Rarc) (k : Nat) (hk : k < l.length) (n : Int), (rarcV l).set (k * 5 + 3) (.int .i64 n) = rarcV (l.set k { l[k] with rd := n })
  | s :: l, 0, _, n => by simp [rarcV]
  | s :: l, k + 1, hk, n => by
    have h := rarcV_set3 l k (by simpa using hk) n
    have e : ∀ (t : Rarc) (m : List Rarc), rarcV (t :: m) = [.int .i64 t.fr, .int .i64 t.to, .int .i64 t.ln, .int .i64 t.rd, .int .i64 t.wy] ++ rarcV m := fun t m => by simp [rarcV]
    rw [List.set_cons_succ, e, e, List.set_append_right _ _ (by simp; omega), show (k + 1) * 5 + 3 - [Value.int .i64 s.fr, .int .i64 s.to, .int .i64 s.ln, .int .i64 s.rd, .int .i64 s.wy].length = k * 5 + 3 by simp; omega, h]
    rfl
theorem rarcV_set4 : ∀ (l : List Rarc) (k : Nat) (hk : k < l.length) (n : Int), (rarcV l).set (k * 5 + 4) (.int .i64 n) = rarcV (l.set k { l[k] with wy := n })
  | s :: l, 0, _, n => by simp [rarcV]
  | s :: l, k + 1, hk, n => by
    have h := rarcV_set4 l k (by simpa using hk) n
    have e : ∀ (t : Rarc) (m : List Rarc), rarcV (t :: m) = [.int .i64 t.fr, .int .i64 t.to, .int .i64 t.ln, .int .i64 t.rd, .int .i64 t.wy] ++ rarcV m := fun t m => by simp [rarcV]
    rw [List.set_cons_succ, e, e, List.set_append_right _ _ (by simp; omega), show (k + 1) * 5 + 4 - [Value.int .i64 s.fr, .int .i64 s.to, .int .i64 s.ln, .int .i64 s.rd, .int .i64 s.wy].length = k * 5 + 4 by simp; omega, h]
    rfl
section
variable {H : Type} {enc : TypeId × Value → H} {P : Program} {w : World} {base : Nat} {spare : Nat → Bool} {held : Bool}
theorem read_rarcs {t e ti : TypeId} {f0 f1 f2 f3 f4 : Field} {fuel : Nat} {a : Option Addr} {len cap : Nat} {x : DataW H × List MemPlace} (ht : P.underlying t = some (.slice e)) (he : P.underlying e = some (.struct #[f0, f1, f2, f3, f4]))
    (hone : oneCellFields P #[f0, f1, f2, f3, f4] = true) (hC : P.cellsOf e = 5) (hi : P.underlying ti = some (.int .i64)) (h0 : f0.type = ti) (h1 : f1.type = ti) (h2 : f2.type = ti) (h3 : f3.type = ti) (h4 : f4.type = ti)
    (h : DataW.trod enc P w base spare held fuel t [.slice a len cap] = some x) : ∃ l : List Rarc, l.length = len ∧ Rarcs w a l := by
  rcases open_slice_fields ht he hone hC h with ⟨hcs, _⟩ | ⟨ad, l', c', m, D, Pl, hcs, _, hl, _, hm, _, hf⟩
  · simp at hcs
    obtain ⟨rfl, rfl, rfl⟩ := hcs
    exact ⟨[], rfl, fun j hj => by simp at hj⟩
  · simp at hcs
    obtain ⟨rfl, rfl, rfl⟩ := hcs
    have hlm : len ≤ m := by rw [hm]; split <;> omega
    have each : ∀ i, i < len → ∃ s : Rarc, w.cell? (ad.add (i * 5 + 0)) = some (.int .i64 s.fr) ∧ w.cell? (ad.add (i * 5 + 1)) = some (.int .i64 s.to) ∧ w.cell? (ad.add (i * 5 + 2)) = some (.int .i64 s.ln) ∧ w.cell? (ad.add (i * 5 + 3)) = some (.int .i64 s.rd) ∧ w.cell? (ad.add (i * 5 + 4)) = some (.int .i64 s.wy) := by
      intro i hi'
      obtain ⟨ys, n, _, _, _, hg⟩ := hf i (by omega)
      obtain ⟨v0, y0, c0, _, t0⟩ := hg 0 f0 rfl
      obtain ⟨v1, y1, c1, _, t1⟩ := hg 1 f1 rfl
      obtain ⟨v2, y2, c2, _, t2⟩ := hg 2 f2 rfl
      obtain ⟨v3, y3, c3, _, t3⟩ := hg 3 f3 rfl
      obtain ⟨v4, y4, c4, _, t4⟩ := hg 4 f4 rfl
      rw [h0] at t0
      obtain ⟨n0, e0, _⟩ := DataW.trod_int hi t0
      rw [h1] at t1
      obtain ⟨n1, e1, _⟩ := DataW.trod_int hi t1
      rw [h2] at t2
      obtain ⟨n2, e2, _⟩ := DataW.trod_int hi t2
      rw [h3] at t3
      obtain ⟨n3, e3, _⟩ := DataW.trod_int hi t3
      rw [h4] at t4
      obtain ⟨n4, e4, _⟩ := DataW.trod_int hi t4
      simp at e0 e1 e2 e3 e4
      subst e0 e1 e2 e3 e4
      exact ⟨⟨n0, n1, n2, n3, n4⟩, c0, c1, c2, c3, c4⟩
    let S : Nat → Rarc := fun i => if hi' : i < len then Classical.choose (each i hi') else default
    refine ⟨(List.range len).map S, by simp, fun j hj => ?_⟩
    have hj' : j < len := by simpa using hj
    have hS : S j = Classical.choose (each j hj') := by simp [S, hj']
    obtain ⟨k0, k1, k2, k3, k4⟩ := Classical.choose_spec (each j hj')
    rw [← hS] at k0 k1 k2 k3 k4
    obtain ⟨sz, z0, _⟩ := each 0 (by omega)
    have z1 : w.cell? (ad.add 0) = some (.int .i64 sz.fr) := by simpa using z0
    obtain ⟨b, off, rfl, hb⟩ := spot_none z1
    rw [add_at] at k0 k1 k2 k3 k4
    refine ⟨b, off, rfl, hb, ?_⟩
    simp only [List.getElem_map, List.getElem_range]
    exact ⟨by simpa using k0, by simpa [Nat.add_assoc] using k1, by simpa [Nat.add_assoc] using k2, by simpa [Nat.add_assoc] using k3, by simpa [Nat.add_assoc] using k4⟩
end

end Go.Proofs.Ytbejgbflipoboaa
