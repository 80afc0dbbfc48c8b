/- Plain words for what the walks say of memory: worlds that have only grown, slices of ints and of sites that read as lists. No program in sight. -/
import Derived.WalkKit
import Derived.Lib.Hide
import Derived.Deep.Draws
namespace Go.Proofs.Ytfhgnmijigdlmaa
open Go.RowKit

/-- The world has only grown: whatever lay, lies as it lay. -/
abbrev Ext (w w' : World) : Prop := Below w.heap.size w w'

theorem Ext.rfl' (w : World) : Ext w w := Below.refl _ w
theorem Ext.trans' {a b c : World} (h : Ext a b) (k : Ext b c) : Ext a c := Below.trans h (Below.mono k h.size)
theorem Ext.cell' {a b : World} (h : Ext a b) {bl off : Nat} (hb : bl < a.heap.size) : b.cell? ⟨bl, off, none⟩ = a.cell? ⟨bl, off, none⟩ := h.cell (p := ⟨bl, off, none⟩) hb

/-- The slice address a leads to the ints l. -/
def Ints (w : World) (a : Option Addr) (l : List Int) : Prop :=
  ∀ j, j < l.length → ∃ b off, a = some ⟨b, off, none⟩ ∧ b < w.heap.size ∧ w.cell? ⟨b, off + j, none⟩ = some (.int .i64 (l[j]?.getD 0))

theorem Ints.ext {w w' : World} {a : Option Addr} {l : List Int} (h : Ints w a l) (hE : Ext w w') : Ints w' a l := fun j hj => by
  obtain ⟨b, off, ha, hb, hc⟩ := h j hj
  exact ⟨b, off, ha, Nat.lt_of_lt_of_le hb hE.size, (hE.cell' hb).trans hc⟩

/-- ret helper -/
theorem ret_bool {a b : Bool} (h : a = b) : Ending.returned (.bool a) = .returned (.bool b) := by rw [h]
theorem ret_int {k : IntKind} {a b : Int} (h : a = b) : Ending.returned (.int k a) = .returned (.int k b) := by rw [h]

/-- the first index at which the test says yes, or -1 -/
def idxP (p : Int → Bool) (l : List Int) : Int := match l.findIdx? p with | some i => i | none => -1
theorem idxP_hit {p : Int → Bool} {l : List Int} {k : Nat} (hk : k < l.length) (h : ∀ j, j < k → p (l[j]?.getD 0) = false) (hp : p l[k] = true) : idxP p l = k := by
  have : l.findIdx? p = some k := by
    rw [List.findIdx?_eq_some_iff_getElem]
    refine ⟨hk, hp, fun j hj => ?_⟩
    have := h j hj
    rw [List.getElem?_eq_getElem (by omega)] at this
    simpa using this
  simp [idxP, this]
theorem idxP_miss {p : Int → Bool} {l : List Int} (h : ∀ j, j < l.length → p (l[j]?.getD 0) = false) : idxP p l = -1 := by
  have : l.findIdx? p = none := by
    rw [List.findIdx?_eq_none_iff]
    intro x hx
    obtain ⟨j, hj, rfl⟩ := List.getElem_of_mem hx
    have := h j hj
    rw [List.getElem?_eq_getElem hj] at this
    simpa using this
  simp [idxP, this]
theorem idxP_geq (p : Int → Bool) (l : List Int) : decide (0 ≤ idxP p l) = l.any p := by
  unfold idxP
  cases h : l.findIdx? p with
  | none =>
    rw [List.findIdx?_eq_none_iff] at h
    have : l.any p = false := by simpa using h
    rw [this]; rfl
  | some i =>
    have : l.any p = true := by
      have := List.findIdx?_isSome (p := p) (xs := l)
      rw [h] at this; simpa using this.symm
    rw [this]; simp
theorem idxP_bd (p : Int → Bool) (l : List Int) : -1 ≤ idxP p l ∧ idxP p l ≤ l.length := by
  unfold idxP
  cases h : l.findIdx? p with
  | none => simp
  | some i =>
    have := (List.findIdx?_eq_some_iff_getElem.1 h).1
    simp; omega
def withinB (n lo hi : Int) : Bool := decide (lo ≤ n) && decide (n ≤ hi)
theorem withinB_iff {n lo hi : Int} : withinB n lo hi = true ↔ lo ≤ n ∧ n ≤ hi := by simp [withinB]

def errOf (b : Bool) : Int := if b then 0 else 1
end Go.Proofs.Ytfhgnmijigdlmaa
