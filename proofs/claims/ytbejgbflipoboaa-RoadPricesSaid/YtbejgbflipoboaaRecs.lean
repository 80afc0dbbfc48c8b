/- Flat records that a slice holds, read as lists; slices of slices. Printed by wip/gen/genrec.py. -/
import Derived.Deep.Slices
import Derived.Deep.Fields
import Derived.ChangeSame
import Derived.OpenShut
import Derived.ProofKit
import Derived.Lib.SmallJoins
import Derived.Test.YtbejgbflipoboaaApp0
namespace Go.Proofs.Ytbejgbflipoboaa
open Go.ChangeShapes Go.WideShapes Go.ChangeAt Go.RowKit Go.Deep

structure Road where
  fr : Int
  to : Int
  ln : Int
  wd : Int
  deriving DecidableEq, Inhabited
def Roads (w : World) (a : Option Addr) (l : List Road) : Prop :=
  ∀ j, (hj : j < l.length) → ∃ b off, a = some ⟨b, off, none⟩ ∧ b < w.heap.size ∧ w.cell? ⟨b, off + j * 4, none⟩ = some (.int .i64 l[j].fr) ∧ w.cell? ⟨b, off + j * 4 + 1, none⟩ = some (.int .i64 l[j].to) ∧ w.cell? ⟨b, off + j * 4 + 2, none⟩ = some (.int .i64 l[j].ln) ∧ w.cell? ⟨b, off + j * 4 + 3, none⟩ = some (.int .i64 l[j].wd)
theorem Roads.ext {w w' : World} {a : Option Addr} {l : List Road} (h : Roads w a l) (hE : Ext w w') : Roads w' a l := fun j hj => by
  obtain ⟨b, off, ha, hb, h1, h2, h3, h4⟩ := h j hj
  exact ⟨b, off, ha, Nat.lt_of_lt_of_le hb hE.size, (hE.cell' hb).trans h1, (hE.cell' hb).trans h2, (hE.cell' hb).trans h3, (hE.cell' hb).trans h4⟩
def roadV (l : List Road) : List Value := l.flatMap fun s => [.int .i64 s.fr, .int .i64 s.to, .int .i64 s.ln, .int .i64 s.wd]
theorem roadV_length (l : List Road) : (roadV l).length = l.length * 4 := by
  induction l with
  | nil => rfl
  | cons s l ih => simp only [roadV, List.flatMap_cons, List.length_append, List.length_cons, List.length_nil] at ih ⊢; omega
theorem roadV_append (l k : List Road) : roadV (l ++ k) = roadV l ++ roadV k := by simp [roadV]
theorem roadV_one (s : Road) : roadV [s] = [.int .i64 s.fr, .int .i64 s.to, .int .i64 s.ln, .int .i64 s.wd] := by simp [roadV]
theorem roadV_at : ∀ (l : List Road) (i : Nat) (hi : i < l.length), (roadV l)[i * 4]? = some (.int .i64 l[i].fr) ∧ (roadV l)[i * 4 + 1]? = some (.int .i64 l[i].to) ∧ (roadV l)[i * 4 + 2]? = some (.int .i64 l[i].ln) ∧ (roadV l)[i * 4 + 3]? = some (.int .i64 l[i].wd)
  | s :: l, 0, _ => by simp [roadV]
  | s :: l, i + 1, hi => by
    have h := roadV_at l i (by simpa using hi)
    have e : roadV (s :: l) = [.int .i64 s.fr, .int .i64 s.to, .int .i64 s.ln, .int .i64 s.wd] ++ roadV l := by simp [roadV]
    rw [e]
    refine ⟨?_, ?_, ?_, ?_⟩
    · rw [List.getElem?_append_right (by simp; omega), show (i + 1) * 4 - [Value.int .i64 s.fr, .int .i64 s.to, .int .i64 s.ln, .int .i64 s.wd].length = i * 4 by simp; omega]; exact h.1
    · rw [List.getElem?_append_right (by simp; omega), show (i + 1) * 4 + 1 - [Value.int .i64 s.fr, .int .i64 s.to, .int .i64 s.ln, .int .i64 s.wd].length = i * 4 + 1 by simp; omega]; exact h.2.1
    · rw [List.getElem?_append_right (by simp; omega), show (i + 1) * 4 + 2 - [Value.int .i64 s.fr, .int .i64 s.to, .int .i64 s.ln, .int .i64 s.wd].length = i * 4 + 2 by simp; omega]; exact h.2.2.1
    · rw [List.getElem?_append_right (by simp; omega), show (i + 1) * 4 + 3 - [Value.int .i64 s.fr, .int .i64 s.to, .int .i64 s.ln, .int .i64 s.wd].length = i * 4 + 3 by simp; omega]; exact h.2.2.2
theorem roadV_one_cell (l : List Road) : ∀ u ∈ roadV l, u.oneCell' = true := by
  intro u hu
  simp only [roadV, List.mem_flatMap] at hu
  obtain ⟨s, _, hs⟩ := hu
  simp at hs
  rcases hs with rfl | rfl | rfl | rfl <;> rfl
theorem reads_roads {w : World} {a : Option Addr} {l : List Road} (h : Roads w a l) : Reads w w.heap.size 4 a l.length (roadV l) := by
  refine ⟨roadV_length l, fun h0 => ?_⟩
  obtain ⟨b, off, rfl, hb, _⟩ := h 0 h0
  refine ⟨_, rfl, hb, fun j u hu => ?_⟩
  rw [add_at]
  have hj : j < l.length * 4 := by
    have := (List.getElem?_eq_some_iff.1 hu).1
    rwa [roadV_length] at this
  have hi : j / 4 < l.length := by omega
  obtain ⟨b', off', he, _, c0, c1, c2, c3⟩ := h (j / 4) hi
  simp only [Option.some.injEq, Addr.mk.injEq] at he
  obtain ⟨rfl, rfl, -⟩ := he
  obtain ⟨v0, v1, v2, v3⟩ := roadV_at l (j / 4) hi
  have h3 : j % 4 = 0 ∨ j % 4 = 1 ∨ j % 4 = 2 ∨ j % 4 = 3 := by omega
  rcases h3 with h3 | h3 | h3 | h3
  · have e : j = j / 4 * 4 := by omega
    rw [e] at hu ⊢
    rw [v0] at hu
    rw [← hu]; exact c0
  · have e : j = j / 4 * 4 + 1 := by omega
    rw [e] at hu ⊢
    rw [v1] at hu
    rw [← hu]; exact c1
  · have e : j = j / 4 * 4 + 2 := by omega
    rw [e] at hu ⊢
    rw [v2] at hu
    rw [← hu]; exact c2
  · have e : j = j / 4 * 4 + 3 := by omega
    rw [e] at hu ⊢
    rw [v3] at hu
    rw [← hu]; exact c3
theorem roads_of_row {w : World} {base n : Nat} {v : Value} {T : TypeId} {l : List Road} (h : w.ownsRow base T 4 v n (roadV l)) : ∃ a c, v = .slice a l.length c ∧ Roads w a l := by
  have hn : l.length = n := by have := h.1; rw [roadV_length] at this; omega
  rcases h.2 with ⟨rfl, h0⟩ | ⟨g, cap, cur, rfl, hb, hg, h1, h2, h3, h4⟩
  · exact ⟨none, 0, by rw [hn, h0], fun j hj => by omega⟩
  · refine ⟨_, cap, by rw [hn], fun j hj => ⟨g, 0, rfl, (Array.getElem?_eq_some_iff.1 hg).1, ?_⟩⟩
    obtain ⟨v0, v1, v2, v3⟩ := roadV_at l j hj
    have c0 := h.cells (g := g) rfl _ _ v0
    have c1 := h.cells (g := g) rfl _ _ v1
    have c2 := h.cells (g := g) rfl _ _ v2
    have c3 := h.cells (g := g) rfl _ _ v3
    rw [add_at] at c0 c1 c2 c3
    exact ⟨c0, by simpa [Nat.add_assoc] using c1, by simpa [Nat.add_assoc] using c2, by simpa [Nat.add_assoc] using c3⟩
theorem roads_new1 (w : World) (s : Road) (T : TypeId) : Roads (w.alloc (.cells #[.int .i64 s.fr, .int .i64 s.to, .int .i64 s.ln, .int .i64 s.wd] T)) (some ⟨w.heap.size, 0, none⟩) [s] := by
  intro j hj
  refine ⟨_, _, rfl, by simp, ?_⟩
  match j, hj with
  | 0, _ => simp
theorem roadV_set0 : ∀ (l : List Road) (k : Nat) (hk : k < l.length) (n : Int), (roadV l).set (k * 4) (.int .i64 n) = roadV (l.set k { l[k] with fr := n })
  | s :: l, 0, _, n => by simp [roadV]
  | s :: l, k + 1, hk, n => by
    have h := roadV_set0 l k (by simpa using hk) n
    have e : ∀ (t : Road) (m : List Road), roadV (t :: m) = [.int .i64 t.fr, .int .i64 t.to, .int .i64 t.ln, .int .i64 t.wd] ++ roadV m := fun t m => by simp [roadV]
    rw [List.set_cons_succ, e, e, List.set_append_right _ _ (by simp; omega), show (k + 1) * 4 - [Value.int .i64 s.fr, .int .i64 s.to, .int .i64 s.ln, .int .i64 s.wd].length = k * 4 by simp; omega, h]
    rfl
theorem roadV_set1 : ∀ (l : List Road) (k : Nat) (hk : k < l.length) (n : Int), (roadV l).set (k * 4 + 1) (.int .i64 n) = roadV (l.set k { l[k] with to := n })
  | s :: l, 0, _, n => by simp [roadV]
  | s :: l, k + 1, hk, n => by
    have h := roadV_set1 l k (by simpa using hk) n
    have e : ∀ (t : Road) (m : List Road), roadV (t :: m) = [.int .i64 t.fr, .int .i64 t.to, .int .i64 t.ln, .int .i64 t.wd] ++ roadV m := fun t m => by simp [roadV]
    rw [List.set_cons_succ, e, e, List.set_append_right _ _ (by simp; omega), show (k + 1) * 4 + 1 - [Value.int .i64 s.fr, .int .i64 s.to, .int .i64 s.ln, .int .i64 s.wd].length = k * 4 + 1 by simp; omega, h]
    rfl
theorem roadV_set2 : ∀ (l : List Road) (k : Nat) (hk : k < l.length) (n : Int), (roadV l).set (k * 4 + 2) (.int .i64 n) = roadV (l.set k { l[k] with ln := n })
  | s :: l, 0, _, n => by simp [roadV]
  | s :: l, k + 1, hk, n => by
    have h := roadV_set2 l k (by simpa using hk) n
    have e : ∀ (t : Road) (m : List Road), roadV (t :: m) = [.int .i64 t.fr, .int .i64 t.to, .int .i64 t.ln, .int .i64 t.wd] ++ roadV m := fun t m => by simp [roadV]
    rw [List.set_cons_succ, e, e, List.set_append_right _ _ (by simp; omega), show (k + 1) * 4 + 2 - [Value.int .i64 s.fr, .int .i64 s.to, .int .i64 s.ln, .int .i64 s.wd].length = k * 4 + 2 by simp; omega, h]
    rfl
theorem roadV_set3 : ∀ (l : List Road) (k : Nat) (hk : k < l.length) (n : Int), (roadV l).set (k * 4 + 3) (.int .i64 n) = roadV (l.set k { l[k] with wd := n })
  | s :: l, 0, _, n => by simp [roadV]
  | s :: l, k + 1, hk, n => by
    have h := roadV_set3 l k (by simpa using hk) n
    have e : ∀ (t : Road) (m : List Road), roadV (t :: m) = [.int .i64 t.fr, .int .i64 t.to, .int .i64 t.ln, .int .i64 t.wd] ++ roadV m := fun t m => by simp [roadV]
    rw [List.set_cons_succ, e, e, List.set_append_right _ _ (by simp; omega), show (k + 1) * 4 + 3 - [Value.int .i64 s.fr, .int .i64 s.to, .int .i64 s.ln, .int .i64 s.wd].length = k * 4 + 3 by simp; omega, h]
    rfl
section
variable {H : Type} {enc : TypeId × Value → H} {P : Program} {w : World} {base : Nat} {spare : Nat → Bool} {held : Bool}
theorem read_roads {t e ti : TypeId} {f0 f1 f2 f3 : Field} {fuel : Nat} {a : Option Addr} {len cap : Nat} {x : DataW H × List MemPlace} (ht : P.underlying t = some (.slice e)) (he : P.underlying e = some (.struct #[f0, f1, f2, f3]))
    (hone : oneCellFields P #[f0, f1, f2, f3] = true) (hC : P.cellsOf e = 4) (hi : P.underlying ti = some (.int .i64)) (h0 : f0.type = ti) (h1 : f1.type = ti) (h2 : f2.type = ti) (h3 : f3.type = ti)
    (h : DataW.trod enc P w base spare held fuel t [.slice a len cap] = some x) : ∃ l : List Road, l.length = len ∧ Roads w a l := by
  rcases open_slice_fields ht he hone hC h with ⟨hcs, _⟩ | ⟨ad, l', c', m, D, Pl, hcs, _, hl, _, hm, _, hf⟩
  · simp at hcs
    obtain ⟨rfl, rfl, rfl⟩ := hcs
    exact ⟨[], rfl, fun j hj => by simp at hj⟩
  · simp at hcs
    obtain ⟨rfl, rfl, rfl⟩ := hcs
    have hlm : len ≤ m := by rw [hm]; split <;> omega
    have each : ∀ i, i < len → ∃ s : Road, w.cell? (ad.add (i * 4 + 0)) = some (.int .i64 s.fr) ∧ w.cell? (ad.add (i * 4 + 1)) = some (.int .i64 s.to) ∧ w.cell? (ad.add (i * 4 + 2)) = some (.int .i64 s.ln) ∧ w.cell? (ad.add (i * 4 + 3)) = some (.int .i64 s.wd) := by
      intro i hi'
      obtain ⟨ys, n, _, _, _, hg⟩ := hf i (by omega)
      obtain ⟨v0, y0, c0, _, t0⟩ := hg 0 f0 rfl
      obtain ⟨v1, y1, c1, _, t1⟩ := hg 1 f1 rfl
      obtain ⟨v2, y2, c2, _, t2⟩ := hg 2 f2 rfl
      obtain ⟨v3, y3, c3, _, t3⟩ := hg 3 f3 rfl
      rw [h0] at t0
      obtain ⟨n0, e0, _⟩ := DataW.trod_int hi t0
      rw [h1] at t1
      obtain ⟨n1, e1, _⟩ := DataW.trod_int hi t1
      rw [h2] at t2
      obtain ⟨n2, e2, _⟩ := DataW.trod_int hi t2
      rw [h3] at t3
      obtain ⟨n3, e3, _⟩ := DataW.trod_int hi t3
      simp at e0 e1 e2 e3
      subst e0 e1 e2 e3
      exact ⟨⟨n0, n1, n2, n3⟩, c0, c1, c2, c3⟩
    let S : Nat → Road := fun i => if hi' : i < len then Classical.choose (each i hi') else default
    refine ⟨(List.range len).map S, by simp, fun j hj => ?_⟩
    have hj' : j < len := by simpa using hj
    have hS : S j = Classical.choose (each j hj') := by simp [S, hj']
    obtain ⟨k0, k1, k2, k3⟩ := Classical.choose_spec (each j hj')
    rw [← hS] at k0 k1 k2 k3
    obtain ⟨sz, z0, _⟩ := each 0 (by omega)
    have z1 : w.cell? (ad.add 0) = some (.int .i64 sz.fr) := by simpa using z0
    obtain ⟨b, off, rfl, hb⟩ := spot_none z1
    rw [add_at] at k0 k1 k2 k3
    refine ⟨b, off, rfl, hb, ?_⟩
    simp only [List.getElem_map, List.getElem_range]
    exact ⟨by simpa using k0, by simpa [Nat.add_assoc] using k1, by simpa [Nat.add_assoc] using k2, by simpa [Nat.add_assoc] using k3⟩
end

end Go.Proofs.Ytbejgbflipoboaa
