/- Plain words of layer 7: lists of atoms, their errors, totals, units. No program in sight. -/
import Derived.Test.YtgnjaapjaglleaaRecs
namespace Go.Proofs.Ytgnjaapjaglleaa

def atK (l : List Atom) (i : Nat) : Atom := l[i]?.getD default
def goodAt (P M : Int) (l : List Atom) (i : Nat) : Bool :=
  withinB (atK l i).p (-P) P && (withinB (atK l i).m 1 M && (decide (i = 0) || decide ((atK l (i - 1)).p < (atK l i).p)))
def isListB (P M : Int) (l : List Atom) : Bool := (List.range l.length).all (goodAt P M l)
theorem atK_at {l : List Atom} {i : Nat} (h : i < l.length) : atK l i = l[i] := by simp [atK, h]
theorem isListB_no {P M : Int} {l : List Atom} {k : Nat} (hk : k < l.length) (h : goodAt P M l k = false) : isListB P M l = false := by
  unfold isListB; rw [List.all_eq_false]; exact ⟨k, List.mem_range.2 hk, by simp [h]⟩
theorem isListB_yes {P M : Int} {l : List Atom} (h : ∀ j, j < l.length → goodAt P M l j = true) : isListB P M l = true := by
  unfold isListB; rw [List.all_eq_true]; exact fun j hj => h j (List.mem_range.1 hj)
theorem isListB_at {P M : Int} {l : List Atom} (h : isListB P M l = true) {k : Nat} (hk : k < l.length) : goodAt P M l k = true := by
  unfold isListB at h; rw [List.all_eq_true] at h; exact h k (List.mem_range.2 hk)
theorem goodAt_place {P M : Int} {l : List Atom} {k : Nat} (hk : k < l.length) (h : withinB l[k].p (-P) P = false) : goodAt P M l k = false := by
  unfold goodAt; rw [atK_at hk, h]; rfl
theorem goodAt_mass {P M : Int} {l : List Atom} {k : Nat} (hk : k < l.length) (h : withinB l[k].m 1 M = false) : goodAt P M l k = false := by
  unfold goodAt; rw [atK_at hk, h]; simp
theorem goodAt_down {P M : Int} {l : List Atom} {k : Nat} (hk : k + 1 < l.length) (h : l[k + 1].p ≤ l[k].p) : goodAt P M l (k + 1) = false := by
  unfold goodAt; rw [atK_at hk, Nat.add_sub_cancel, atK_at (show k < l.length by omega)]
  have : decide (l[k].p < l[k + 1].p) = false := by simp; omega
  rw [this]; simp
theorem goodAt_zero {P M : Int} {l : List Atom} (hk : 0 < l.length) (h1 : withinB l[0].p (-P) P = true) (h2 : withinB l[0].m 1 M = true) : goodAt P M l 0 = true := by
  unfold goodAt; rw [atK_at hk, h1, h2]; rfl
theorem goodAt_up {P M : Int} {l : List Atom} {k : Nat} (hk : k + 1 < l.length) (h1 : withinB l[k + 1].p (-P) P = true) (h2 : withinB l[k + 1].m 1 M = true) (h : l[k].p < l[k + 1].p) : goodAt P M l (k + 1) = true := by
  unfold goodAt; rw [atK_at hk, Nat.add_sub_cancel, atK_at (show k < l.length by omega), h1, h2]; simp [h]
theorem goodAt_spec {P M : Int} {l : List Atom} {k : Nat} (hk : k < l.length) (h : goodAt P M l k = true) : (-P ≤ l[k].p ∧ l[k].p ≤ P) ∧ (1 ≤ l[k].m ∧ l[k].m ≤ M) ∧ (0 < k → (atK l (k - 1)).p < l[k].p) := by
  unfold goodAt at h; rw [atK_at hk] at h
  simp only [Bool.and_eq_true, Bool.or_eq_true, decide_eq_true_eq] at h
  exact ⟨withinB_iff.1 h.1, withinB_iff.1 h.2.1, fun h0 => h.2.2.resolve_left (by omega)⟩

/-- the first error of a list of atoms: at most n of them, places up to P, masses up to M -/
def listErr (n : Nat) (P M : Int) (l : List Atom) : Int := if n < l.length then 3 else if isListB P M l then 0 else 1
def valAtoms (l : List Atom) : Int := listErr 40 60000 1000 l
def valLoad (l : List Atom) : Int := listErr 6 1000 30 l
def totalL (l : List Atom) : Int := (l.map (·.m)).sum
theorem listErr_cases (n : Nat) (P M : Int) (l : List Atom) : listErr n P M l = 0 ∨ listErr n P M l = 1 ∨ listErr n P M l = 3 := by
  unfold listErr; split
  · simp
  · split <;> simp
theorem listErr_ok {n : Nat} {P M : Int} {l : List Atom} (h : listErr n P M l = 0) : l.length ≤ n ∧ isListB P M l = true := by
  unfold listErr at h
  split at h
  · simp at h
  · split at h
    · exact ⟨by omega, by assumption⟩
    · simp at h
theorem take_sum (l : List Atom) {k : Nat} (hk : k < l.length) : totalL (l.take (k + 1)) = totalL (l.take k) + l[k].m := by
  unfold totalL
  rw [List.take_succ_eq_append_getElem hk, List.map_append, List.sum_append]; simp
theorem total_bd {P M : Int} {l : List Atom} (hM : 0 ≤ M) (h : isListB P M l = true) : ∀ k, k ≤ l.length → 0 ≤ totalL (l.take k) ∧ totalL (l.take k) ≤ k * M
  | 0, _ => by simp [totalL]
  | k + 1, hk => by
    have h1 := total_bd hM h k (by omega)
    have h2 := goodAt_spec (by omega) (isListB_at h (show k < l.length by omega))
    rw [take_sum l (by omega)]
    have e : ((k + 1 : Nat) : Int) * M = k * M + M := by rw [show ((k + 1 : Nat) : Int) = (k : Int) + 1 by omega, Int.add_mul, Int.one_mul]
    omega
end Go.Proofs.Ytgnjaapjaglleaa
