/- A list made of places in any order; the units of a list. -/
import Derived.Test.YtgnjaapjaglleaaP13
namespace Go.Proofs.Ytgnjaapjaglleaa

def fromErr (U : List Int) : Int := if 1000 < U.length then 3 else if U.all nearB = true then (if (collectL (sortI U)).length ≤ 40 then 0 else 3) else 1
def fromL (U : List Int) : List Atom := if fromErr U = 0 then collectL (sortI U) else []
theorem sortI_asc (U : List Int) : Asc (sortI U) := fun j hj => pw_asc (sortI_pw U) (by omega) hj
theorem sortI_congr {U V : List Int} (h : U.Perm V) : sortI U = sortI V := sortI_eq (sortI_pw U) ((sortI_perm U).trans h)
theorem from_perm {U V : List Int} (h : U.Perm V) : fromErr U = fromErr V ∧ fromL U = fromL V := by
  have h1 : fromErr U = fromErr V := by
    unfold fromErr
    rw [sortI_congr h, h.length_eq, h.all_eq]
  exact ⟨h1, by unfold fromL; rw [h1, sortI_congr h]⟩
theorem from_yes {U : List Int} (h1 : U.length ≤ 1000) (h2 : U.all nearB = true) (h3 : (collectL (sortI U)).length ≤ 40) : valAtoms (collectL (sortI U)) = 0 := by
  refine collect_valid (sortI_asc U) (fun j hj => ?_) (fun y hy => ?_) h3
  · rw [List.all_eq_true] at h2
    have := withinB_iff.1 (h2 _ ((sortI_perm U).subset (gi_mem hj)))
    omega
  · have := collect_mass_le hy
    rw [sortI_length] at this
    omega
theorem from_len {U : List Int} : (fromL U).length ≤ 40 := by
  unfold fromL
  split
  · rename_i h
    unfold fromErr at h
    split at h
    · simp at h
    · split at h
      · split at h
        · assumption
        · simp at h
      · simp at h
  · simp
theorem from_three {U : List Int} (h1 : 1000 < U.length) : fromErr U = 3 := by unfold fromErr; rw [if_pos h1]
theorem from_one {U : List Int} (h1 : U.length ≤ 1000) (h2 : U.all nearB = false) : fromErr U = 1 := by unfold fromErr; rw [if_neg (by omega), if_neg (by rw [h2]; simp)]
theorem from_far {U : List Int} (h1 : U.length ≤ 1000) (h2 : U.all nearB = true) (h3 : ¬ (collectL (sortI U)).length ≤ 40) : fromErr U = 3 := by unfold fromErr; rw [if_neg (by omega), if_pos h2, if_neg h3]
theorem from_zero {U : List Int} (h1 : U.length ≤ 1000) (h2 : U.all nearB = true) (h3 : (collectL (sortI U)).length ≤ 40) : fromErr U = 0 := by unfold fromErr; rw [if_neg (by omega), if_pos h2, if_pos h3]
theorem any_near (U : List Int) : U.any (fun n => !withinB n (-60000) 60000) = !U.all nearB := by
  rw [List.not_all_eq_any_not]; rfl

def unitsErr (m : List Atom) : Int := if valAtoms m ≠ 0 then valAtoms m else if 1000 < totalL m then 3 else 0
def unitsV (m : List Atom) : List Int := if unitsErr m = 0 then unitsL m else []
theorem unitsErr_ok {m : List Atom} (h : unitsErr m = 0) : valAtoms m = 0 ∧ totalL m ≤ 1000 := by
  unfold unitsErr at h
  by_cases h1 : valAtoms m = 0
  · rw [if_neg (by simpa using h1)] at h
    by_cases h2 : 1000 < totalL m
    · rw [if_pos h2] at h; simp at h
    · exact ⟨h1, by omega⟩
  · rw [if_pos h1] at h; exact absurd h h1
theorem back_said {m : List Atom} (h : unitsErr m = 0) : fromErr (unitsL m) = 0 ∧ fromL (unitsL m) = m := by
  obtain ⟨h1, h2⟩ := unitsErr_ok h
  obtain ⟨l1, l2⟩ := listErr_ok h1
  have hasc := units_asc l2
  have hs : unitsL m = sortI (unitsL m) := by
    refine sortI_eq ?_ (List.Perm.refl _)
    rw [List.pairwise_iff_getElem]
    intro i j hi hj hij
    have := hasc.le (i := i) (j - i) (by omega)
    rw [show i + (j - i) = j by omega] at this
    simpa [gi, hi, hj] using this
  have hl := units_len (fine_atoms h1)
  have e0 : fromErr (unitsL m) = 0 := from_zero (by omega) (by
    rw [List.all_eq_true]
    intro x hx
    unfold unitsL at hx
    obtain ⟨y, hy, hz⟩ := List.mem_flatMap.1 hx
    have := List.eq_of_mem_replicate hz
    have := (isListB_mem l2 hy).1
    exact withinB_iff.2 (by omega)) (by rw [← hs, collect_units l2]; exact l1)
  exact ⟨e0, by unfold fromL; rw [if_pos e0, ← hs, collect_units l2]⟩
end Go.Proofs.Ytgnjaapjaglleaa
