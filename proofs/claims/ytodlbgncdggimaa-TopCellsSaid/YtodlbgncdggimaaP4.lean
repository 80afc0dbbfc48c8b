/- The smallest power of several sites. -/
import Derived.Test.YtodlbgncdggimaaT21
namespace Go.Proofs.Ytodlbgncdggimaa

theorem cntTo_none {L : List Int} {v : Int} {i : Nat} (h : ∀ j, j < i → L[j]?.getD 0 ≠ v) : ∀ k, k ≤ i → cntTo L v k = 0
  | 0, _ => rfl
  | k + 1, hk => by rw [cntTo, cntTo_none h k (by omega), if_neg (h k (by omega))]
theorem cntTo_first {L : List Int} {v : Int} {i : Nat} (h : ∀ j, j < i → L[j]?.getD 0 ≠ v) (hi : L[i]?.getD 0 = v) : ∀ k, i + 1 ≤ k → 1 ≤ cntTo L v k ∧ (1 < cntTo L v k ↔ ∃ j, i < j ∧ j < k ∧ L[j]?.getD 0 = v)
  | 0, hk => by omega
  | k + 1, hk => by
    by_cases e : k = i
    · subst e
      rw [cntTo, cntTo_none h k (Nat.le_refl _), if_pos hi]
      exact ⟨by omega, fun hh => by omega, fun ⟨j, h1, h2, _⟩ => by omega⟩
    · obtain ⟨h1, h2⟩ := cntTo_first h hi k (by omega)
      rw [cntTo]
      by_cases hv : L[k]?.getD 0 = v
      · rw [if_pos hv]
        exact ⟨by omega, fun _ => ⟨k, by omega, by omega, hv⟩, fun _ => by omega⟩
      · rw [if_neg hv, Nat.add_zero]
        refine ⟨h1, fun hh => ?_, fun ⟨j, h3, h4, h5⟩ => h2.2 ?_⟩
        · obtain ⟨j, h3, h4, h5⟩ := h2.1 hh
          exact ⟨j, h3, by omega, h5⟩
        · refine ⟨j, h3, ?_, h5⟩
          rcases Nat.lt_or_ge j k with h6 | h6
          · exact h6
          · obtain rfl : j = k := by omega
            exact absurd h5 hv

theorem many_rest {l : List Site} {x y : Int} {i : Nat} (h : IsOwn l x y i) : ((pows l x y).drop (i + 1)).any (fun z => leastP l x y == z) = decide (1 < cntP l x y) := by
  have hlen : (pows l x y).length = l.length := by simp [pows]
  have hat : ∀ j, (pows l x y)[j]?.getD 0 = pw l x y j := fun j => map_pow_at l x y j
  have hf := (cntTo_first (L := pows l x y) (v := leastP l x y) (i := i) (fun j hj => by
    rw [hat]; have := h.2.2 j hj; rw [h.least] at this; omega) (by rw [hat, h.least]) l.length (by have := h.1; omega)).2
  rw [cntP, Bool.eq_iff_iff, decide_eq_true_eq, hf, List.any_eq_true]
  constructor
  · rintro ⟨z, hz, he⟩
    obtain ⟨j, hj, rfl⟩ := List.getElem_of_mem hz
    rw [List.length_drop] at hj
    refine ⟨i + 1 + j, by omega, by omega, ?_⟩
    rw [List.getElem_drop] at he
    rw [List.getElem?_eq_getElem (by omega), Option.getD_some]
    exact (beq_iff_eq.1 he).symm
  · rintro ⟨j, h1, h2, h3⟩
    refine ⟨leastP l x y, ?_, beq_self_eq_true _⟩
    rw [List.getElem?_eq_getElem (by omega), Option.getD_some] at h3
    rw [← h3]
    have e : (pows l x y)[j]'(by omega) = ((pows l x y).drop (i + 1))[j - (i + 1)]'(by rw [List.length_drop]; omega) := by
      rw [List.getElem_drop]; congr 1; omega
    rw [e]
    exact List.getElem_mem _

theorem idx_own {l : List Site} {x y : Int} {i : Nat} (h : IsOwn l x y i) : idxOf (leastP l x y) (pows l x y) = i := by
  have hlen : (pows l x y).length = l.length := by simp [pows]
  have hat : ∀ j, (pows l x y)[j]?.getD 0 = pw l x y j := fun j => map_pow_at l x y j
  refine idxP_hit (by rw [hlen]; exact h.1) (fun j hj => ?_) ?_
  · rw [hat, beq_eq_false_iff_ne]
    have := h.2.2 j hj; rw [h.least] at this; omega
  · have h1 := (hat i).trans h.least
    have hi : i < (pows l x y).length := by rw [hlen]; exact h.1
    rw [List.getElem?_eq_getElem hi, Option.getD_some] at h1
    exact beq_iff_eq.2 h1.symm
end Go.Proofs.Ytodlbgncdggimaa
