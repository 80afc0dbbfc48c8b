/- Plain words of roads: what 'ship' does, with fuel. No program in sight. -/
import Derived.Test.YtbejgbflipoboaaRC
namespace Go.Proofs.Ytbejgbflipoboaa
open Go.RowKit

/-- where the ways may begin: 0 where something is left, far elsewhere; the first k are told -/
def firstTo (l : List Int) (k : Nat) : List Int := (List.range l.length).map fun i => if i < k then (if gi l i ≤ 0 then 1099511627776 else 0) else 0
theorem firstTo_length (l : List Int) (k : Nat) : (firstTo l k).length = l.length := by simp [firstTo]
theorem firstTo_zero (l : List Int) : firstTo l 0 = List.replicate l.length 0 := by
  unfold firstTo; rw [List.eq_replicate_iff]; simp
theorem gi_firstTo {l : List Int} {k i : Nat} (hi : i < l.length) : gi (firstTo l k) i = if i < k then (if gi l i ≤ 0 then 1099511627776 else 0) else 0 := by simp [gi, firstTo, hi]
theorem firstTo_far {l : List Int} {k : Nat} (h : gi l k ≤ 0) : (firstTo l k).set k 1099511627776 = firstTo l (k + 1) := List.ext_getElem (by simp [firstTo]) fun j h1 h2 => by
  rw [List.getElem_set]
  simp only [firstTo, List.getElem_map, List.getElem_range]
  by_cases e : k = j
  · subst e; rw [if_pos rfl, if_pos (by omega), if_pos h]
  · rw [if_neg e]
    by_cases h : j < k
    · rw [if_pos h, if_pos (show j < k + 1 by omega)]
    · rw [if_neg h, if_neg (show ¬ j < k + 1 by omega)]
theorem firstTo_near {l : List Int} {k : Nat} (h : ¬ gi l k ≤ 0) : firstTo l (k + 1) = firstTo l k := List.ext_getElem (by simp [firstTo]) fun j h1 h2 => by
  simp only [firstTo, List.getElem_map, List.getElem_range]
  by_cases e : j = k
  · subst e; rw [if_pos (show j < j + 1 by omega), if_neg h, if_neg (show ¬ j < j by omega)]
  · by_cases h : j < k
    · rw [if_pos h, if_pos (show j < k + 1 by omega)]
    · rw [if_neg h, if_neg (show ¬ j < k + 1 by omega)]
def firstL (l : List Int) : List Int := firstTo l l.length
theorem firstL_bd {l : List Int} {i : Nat} (hi : i < l.length) : 0 ≤ gi (firstL l) i ∧ gi (firstL l) i ≤ 1099511627776 := by
  unfold firstL; rw [gi_firstTo hi, if_pos hi]; split <;> omega
/-- the nearest node that lacks some, of the first k -/
def bestTo (l at_ : List Int) : Nat → Int
  | 0 => -1
  | k + 1 => if gi l k < 0 ∧ gi at_ k < 1099511627776 ∧ (bestTo l at_ k < 0 ∨ gi at_ k < gi at_ (bestTo l at_ k).toNat) then (k : Int) else bestTo l at_ k
theorem bestTo_bd (l at_ : List Int) : ∀ k, -1 ≤ bestTo l at_ k ∧ bestTo l at_ k < k
  | 0 => by simp [bestTo]
  | k + 1 => by
    have ih := bestTo_bd l at_ k
    simp only [bestTo]
    split <;> omega
/-- the chain of steps back from a node to where it begins: the flow changed along it, and the beginning -/
def chain (R : List Road) (by_ : List Int) : Nat → Nat → List Int → Option (List Int × Nat)
  | 0, _, _ => none
  | F + 1, i, f => if gi by_ i = 0 then some (f, i) else chain R by_ F (stFr R (gi by_ i)).toNat (turnF f (gi by_ i))
/-- one unit more, with what is left -/
def shipF (N : Nat) (R : List Road) : Nat → List Int → List Int → Option (List Int × List Int)
  | 0, _, _ => none
  | F + 1, f, l =>
    if bestTo l (reachR N R f (firstL l)).at_ N < 0 then some (f, l) else
      match chain R (reachR N R f (firstL l)).by_ 20 (bestTo l (reachR N R f (firstL l)).at_ N).toNat f with
      | none => none
      | some (f', i) => shipF N R F f' (addAt (addAt l (bestTo l (reachR N R f (firstL l)).at_ N).toNat 1) i (-1))
/-- the net of the document's first example -/
def net1 : List Road := [⟨0, 1, 1, 2⟩, ⟨1, 2, 1, 2⟩, ⟨0, 2, 5, 9⟩]
theorem net1_ok : netErr 3 net1 = 0 := by decide
theorem net1_ship : shipF 3 net1 10 [0, 0, 0] [3, 0, -3] = some ([2, 2, 1], [0, 0, 0]) := by decide +kernel
theorem net1_flow : flowErr 3 net1 [3, 0, -3] [2, 2, 1] = 0 ∧ flowV 3 net1 [3, 0, -3] [2, 2, 1] = 9 := by decide
end Go.Proofs.Ytbejgbflipoboaa
