/- What came in, read: a slice of ints, a slice of sites, as lists. -/
import Derived.Deep.Slices
import Derived.Deep.Fields
import Derived.ChangeSame
import Derived.OpenShut
import Derived.ProofKit
import Derived.Lib.SmallJoins
import Derived.Test.YtodlbgncdggimaaProg
import Derived.Test.YtodlbgncdggimaaBase
namespace Go.Proofs.Ytodlbgncdggimaa
open Go.ChangeShapes Go.WideShapes Go.ChangeAt Go.RowKit Go.Deep

section
variable {H : Type} {enc : TypeId × Value → H} {P : Program} {w : World} {base : Nat} {spare : Nat → Bool} {held : Bool}
theorem open_slice_fields {t e : TypeId} {fs : Array Field} {fuel : Nat} {cs : List Value} {x : DataW H × List MemPlace} (ht : P.underlying t = some (.slice e)) (he : P.underlying e = some (.struct fs))
    (hone : oneCellFields P fs = true) (hC : P.cellsOf e = fs.size) (h : DataW.trod enc P w base spare held fuel t cs = some x) :
    (cs = [.slice none 0 0] ∧ x = (.nil, [])) ∨
    ∃ (a : Addr) (len cap m : Nat) (D : Nat → DataW H) (Pl : Nat → List MemPlace), cs = [.slice (some a) len cap] ∧ base ≤ a.block ∧ len ≤ cap ∧ cap ≤ maxLen ∧ m = (if spare a.block then cap else len) ∧
      x = (.slice ((List.range len).map D) ((List.range (m - len)).map fun j => D (len + j)), MemPlace.row a (m * fs.size) ++ (List.range m).flatMap Pl) ∧
      ∀ i, i < m → ∃ (ys : List (DataW H × List MemPlace)) (n : Nat), D i = .agg (ys.map (·.1)) ∧ Pl i = ys.flatMap (·.2) ∧ ys.length = fs.size ∧
        ∀ (j : Nat) (f : Field), fs[j]? = some f → ∃ (v : Value) (y : DataW H × List MemPlace), w.cell? (a.add (i * fs.size + j)) = some v ∧ ys[j]? = some y ∧ DataW.trod enc P w base spare held n f.type [v] = some y := by
  rcases open_slice ht h with h0 | ⟨a, len, cap, m, n, D, Pl, hcs, hb, hl, hm, hmm, hx, hi⟩
  · exact .inl h0
  · refine .inr ⟨a, len, cap, m, D, Pl, hcs, hb, hl, hm, hmm, by rw [hC] at hx; exact hx, fun i him => ?_⟩
    obtain ⟨cs', hc, ht'⟩ := hi i him
    rw [hC] at hc
    obtain ⟨ys, n', hn', hy, hlen, hyl, hf⟩ := DataW.trod_struct he ht'
    obtain ⟨_, hcl, hat⟩ := World.cells?_some hc
    simp only [Prod.mk.injEq] at hy
    refine ⟨ys, n', hy.1, hy.2, hyl, fun j f hj => ?_⟩
    obtain ⟨ho, hk⟩ := hone_of hone j f hj
    have hjl : j < fs.size := (Array.getElem?_eq_some_iff.1 hj).1
    have hcell := hat j hjl
    have hv : cs'[j]? = some (cs'[j]'(by omega)) := List.getElem?_eq_getElem (by omega)
    have h1 := hf j f hj
    rw [ho, hk] at h1
    have hone' : (cs'.drop j).take 1 = [cs'[j]'(by omega)] := by
      rw [List.drop_eq_getElem_cons (by omega)]
      rfl
    rw [hone'] at h1
    have hys : ys[j]? = some (ys[j]'(by omega)) := List.getElem?_eq_getElem (by omega)
    refine ⟨_, _, ?_, hys, h1.trans hys⟩
    rw [← Go.Deep.add_add, hcell, hv]

/-- An address at which a cell lies has no spot; its block is there. -/
theorem at_cell {w : World} {a : Addr} {k : Nat} {v : Value} (h : w.cell? (a.add k) = some v) : ∃ b off, a.add k = ⟨b, off, none⟩ ∧ a.block = b ∧ b < w.heap.size := by
  have hs := World.cell?_spot h
  have hb : (a.add k).block = a.block := by unfold Addr.add; split <;> rfl
  generalize a.add k = c at *
  obtain ⟨b, o, s⟩ := c
  obtain rfl : s = none := hs
  refine ⟨b, o, rfl, hb.symm, ?_⟩
  rcases Nat.lt_or_ge b w.heap.size with h' | h'
  · exact h'
  · simp [World.cell?, Array.getElem?_eq_none h'] at h

theorem spot_none {w : World} {a : Addr} {v : Value} (h : w.cell? (a.add 0) = some v) : ∃ b off, a = ⟨b, off, none⟩ ∧ b < w.heap.size := by
  have e : a.add 0 = a := by simp [Addr.add]
  obtain ⟨b, o, h1, h2, h3⟩ := at_cell h
  exact ⟨b, o, by rw [← e, h1], h3⟩

theorem add_at (b off k : Nat) : Addr.add ⟨b, off, none⟩ k = ⟨b, off + k, none⟩ := by
  unfold Addr.add
  split
  · rename_i h; subst h; rfl
  · rfl

theorem read_ints {t e : TypeId} {fuel : Nat} {a : Option Addr} {len cap : Nat} {x : DataW H × List MemPlace} (ht : P.underlying t = some (.slice e)) (he : P.underlying e = some (.int .i64)) (hc : P.cellsOf e = 1)
    (h : DataW.trod enc P w base spare held fuel t [.slice a len cap] = some x) : ∃ l : List Int, l.length = len ∧ Ints w a l := by
  rcases open_ints ht he hc h with ⟨hcs, _⟩ | ⟨ad, l', c', zs, hcs, _, hl, _, hz, _, hcell, _⟩
  · simp at hcs
    obtain ⟨rfl, rfl, rfl⟩ := hcs
    exact ⟨[], rfl, fun j hj => by simp at hj⟩
  · simp at hcs
    obtain ⟨rfl, rfl, rfl⟩ := hcs
    have hlz : len ≤ zs.length := by rw [hz]; split <;> omega
    refine ⟨zs.take len, by simp; omega, fun j hj => ?_⟩
    have hj' : j < len := by simp at hj; omega
    have h0 := hcell 0 (by omega)
    obtain ⟨b, off, rfl, hb⟩ := spot_none h0
    refine ⟨b, off, rfl, hb, ?_⟩
    have := hcell j (by omega)
    rw [add_at] at this
    rw [this]
    have hjz : j < zs.length := by omega
    simp [hj', hjz]

theorem read_sites {t e ti : TypeId} {f0 f1 f2 : Field} {fuel : Nat} {a : Option Addr} {len cap : Nat} {x : DataW H × List MemPlace} (ht : P.underlying t = some (.slice e)) (he : P.underlying e = some (.struct #[f0, f1, f2]))
    (hone : oneCellFields P #[f0, f1, f2] = true) (hC : P.cellsOf e = 3) (hi : P.underlying ti = some (.int .i64)) (h0 : f0.type = ti) (h1 : f1.type = ti) (h2 : f2.type = ti)
    (h : DataW.trod enc P w base spare held fuel t [.slice a len cap] = some x) : ∃ l : List Site, l.length = len ∧ Sites w a l := by
  rcases open_slice_fields ht he hone hC h with ⟨hcs, _⟩ | ⟨ad, l', c', m, D, Pl, hcs, _, hl, _, hm, _, hf⟩
  · simp at hcs
    obtain ⟨rfl, rfl, rfl⟩ := hcs
    exact ⟨[], rfl, fun j hj => by simp at hj⟩
  · simp at hcs
    obtain ⟨rfl, rfl, rfl⟩ := hcs
    have hlm : len ≤ m := by rw [hm]; split <;> omega
    have each : ∀ i, i < len → ∃ s : Site, w.cell? (ad.add (i * 3 + 0)) = some (.int .i64 s.x) ∧ w.cell? (ad.add (i * 3 + 1)) = some (.int .i64 s.y) ∧ w.cell? (ad.add (i * 3 + 2)) = some (.int .i64 s.w) := by
      intro i hi'
      obtain ⟨ys, n, _, _, _, hg⟩ := hf i (by omega)
      obtain ⟨v0, y0, c0, _, t0⟩ := hg 0 f0 rfl
      obtain ⟨v1, y1, c1, _, t1⟩ := hg 1 f1 rfl
      obtain ⟨v2, y2, c2, _, t2⟩ := hg 2 f2 rfl
      rw [h0] at t0
      rw [h1] at t1
      rw [h2] at t2
      obtain ⟨n0, e0, _⟩ := DataW.trod_int hi t0
      obtain ⟨n1, e1, _⟩ := DataW.trod_int hi t1
      obtain ⟨n2, e2, _⟩ := DataW.trod_int hi t2
      simp at e0 e1 e2
      subst e0 e1 e2
      exact ⟨⟨n0, n1, n2⟩, c0, c1, c2⟩
    let S : Nat → Site := fun i => if hi' : i < len then Classical.choose (each i hi') else default
    refine ⟨(List.range len).map S, by simp, fun j hj => ?_⟩
    have hj' : j < len := by simpa using hj
    have hS : S j = Classical.choose (each j hj') := by simp [S, hj']
    obtain ⟨k0, k1, k2⟩ := Classical.choose_spec (each j hj')
    rw [← hS] at k0 k1 k2
    obtain ⟨sz, z0, _, _⟩ := each 0 (by omega)
    have z1 : w.cell? (ad.add 0) = some (.int .i64 sz.x) := by simpa using z0
    obtain ⟨b, off, rfl, hb⟩ := spot_none z1
    rw [add_at] at k0 k1 k2
    refine ⟨b, off, rfl, hb, ?_⟩
    simp only [List.getElem_map, List.getElem_range]
    exact ⟨by simpa using k0, by simpa [Nat.add_assoc] using k1, by simpa [Nat.add_assoc] using k2⟩
end
end Go.Proofs.Ytodlbgncdggimaa
