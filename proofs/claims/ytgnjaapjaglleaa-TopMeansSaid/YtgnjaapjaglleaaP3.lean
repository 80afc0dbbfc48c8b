/- Loads, weights, the places of a unit, lists of atoms from places. -/
import Derived.Test.YtgnjaapjaglleaaT5
namespace Go.Proofs.Ytgnjaapjaglleaa

def firstErr : List (List Atom) → Int
  | [] => 0
  | l :: t => if valLoad l ≠ 0 then valLoad l else firstErr t
theorem firstErr_hit : ∀ {ll : List (List Atom)} {k : Nat} (hk : k < ll.length), (∀ j, (hj : j < ll.length) → j < k → valLoad ll[j] = 0) → valLoad ll[k] ≠ 0 → firstErr ll = valLoad ll[k]
  | l :: t, 0, _, _, h => by simp only [List.getElem_cons_zero] at h ⊢; rw [firstErr, if_pos h]
  | l :: t, k + 1, hk, h0, h => by
    have h1 : valLoad l = 0 := h0 0 (by simp) (by omega)
    have ih := firstErr_hit (ll := t) (k := k) (by simpa using hk) (fun j hj hjk => by have := h0 (j + 1) (by simpa using hj) (by omega); simpa using this) (by simpa using h)
    rw [firstErr, if_neg (by simpa using h1), ih]; rfl
theorem firstErr_none : ∀ {ll : List (List Atom)}, (∀ j, (hj : j < ll.length) → valLoad ll[j] = 0) → firstErr ll = 0
  | [], _ => rfl
  | l :: t, h => by
    have h1 : valLoad l = 0 := h 0 (by simp)
    rw [firstErr, if_neg (by simpa using h1)]
    exact firstErr_none fun j hj => by have := h (j + 1) (by simpa using hj); simpa using this
theorem firstErr_ok : ∀ {ll : List (List Atom)}, firstErr ll = 0 → ∀ j, (hj : j < ll.length) → valLoad ll[j] = 0
  | l :: t, h, j, hj => by
    by_cases h1 : valLoad l = 0
    · rw [firstErr, if_neg (by simpa using h1)] at h
      cases j with
      | zero => exact h1
      | succ j => exact firstErr_ok h j (by simpa using hj)
    · rw [firstErr, if_pos h1] at h; exact absurd h h1
def fitB (ll : List (List Atom)) : Bool := ll.all fun l => totalL l == totalL (ll[0]?.getD [])
theorem fitB_no {ll : List (List Atom)} {k : Nat} (hk : k < ll.length) (h : totalL ll[k] ≠ totalL ll[0]) : fitB ll = false := by
  unfold fitB; rw [List.all_eq_false]
  refine ⟨_, List.getElem_mem hk, ?_⟩
  rw [List.getElem?_eq_getElem (by omega), Option.getD_some]; simpa using h
theorem fitB_yes {ll : List (List Atom)} (h : ∀ k, (hk : k < ll.length) → totalL ll[k] = totalL ll[0]) : fitB ll = true := by
  unfold fitB; rw [List.all_eq_true]
  intro x hx
  obtain ⟨j, hj, rfl⟩ := List.getElem_of_mem hx
  rw [List.getElem?_eq_getElem (by omega), Option.getD_some]; simpa using h j hj
def loadsErr (ll : List (List Atom)) : Int := if ll.length < 1 ∨ 5 < ll.length then 3 else if firstErr ll ≠ 0 then firstErr ll else if fitB ll then 0 else 5
structure OkLoads (ll : List (List Atom)) : Prop where
  pos : 1 ≤ ll.length
  five : ll.length ≤ 5
  load : ∀ j, (hj : j < ll.length) → valLoad ll[j] = 0
  fit : ∀ j, (hj : j < ll.length) → totalL ll[j] = totalL ll[0]
theorem loadsErr_ok {ll : List (List Atom)} (h : loadsErr ll = 0) : OkLoads ll := by
  unfold loadsErr at h
  by_cases h1 : ll.length < 1 ∨ 5 < ll.length
  · rw [if_pos h1] at h; simp at h
  rw [if_neg h1] at h
  by_cases h2 : firstErr ll = 0
  · rw [if_neg (by simpa using h2)] at h
    by_cases h3 : fitB ll = true
    · refine ⟨by omega, by omega, firstErr_ok h2, fun j hj => ?_⟩
      unfold fitB at h3; rw [List.all_eq_true] at h3
      have := h3 _ (List.getElem_mem hj)
      rw [List.getElem?_eq_getElem (by omega), Option.getD_some] at this
      simpa using this
    · rw [if_neg h3] at h; simp at h
  · rw [if_pos h2] at h; exact absurd h h2
theorem loadsErr_len {ll : List (List Atom)} (h : ll.length < 1 ∨ 5 < ll.length) : loadsErr ll = 3 := by unfold loadsErr; rw [if_pos h]
theorem loadsErr_hit {ll : List (List Atom)} (h1 : ¬ (ll.length < 1 ∨ 5 < ll.length)) {k : Nat} (hk : k < ll.length) (h0 : ∀ j, (hj : j < ll.length) → j < k → valLoad ll[j] = 0) (h : valLoad ll[k] ≠ 0) : loadsErr ll = valLoad ll[k] := by
  unfold loadsErr; rw [if_neg h1, firstErr_hit hk h0 h, if_pos h]
theorem loadsErr_fit {ll : List (List Atom)} (h1 : ¬ (ll.length < 1 ∨ 5 < ll.length)) (h2 : ∀ j, (hj : j < ll.length) → valLoad ll[j] = 0) {k : Nat} (hk : k < ll.length) (h : totalL ll[k] ≠ totalL ll[0]) : loadsErr ll = 5 := by
  unfold loadsErr; rw [if_neg h1, firstErr_none h2, fitB_no hk h]; simp
theorem loadsErr_yes {ll : List (List Atom)} (h1 : ¬ (ll.length < 1 ∨ 5 < ll.length)) (h2 : ∀ j, (hj : j < ll.length) → valLoad ll[j] = 0) (h : ∀ k, (hk : k < ll.length) → totalL ll[k] = totalL ll[0]) : loadsErr ll = 0 := by
  unfold loadsErr; rw [if_neg h1, firstErr_none h2, fitB_yes h]; simp
theorem load_total {l : List Atom} (h : valLoad l = 0) : 0 ≤ totalL l ∧ totalL l ≤ 180 := by
  obtain ⟨h1, h2⟩ := listErr_ok h
  have h3 := total_bd (by omega) h2 l.length (Nat.le_refl _)
  rw [List.take_length] at h3
  omega
theorem OkLoads.fine {ll : List (List Atom)} (h : OkLoads ll) {j : Nat} (hj : j < ll.length) : Fine ll[j] := fine_load (h.load j hj)
theorem OkLoads.units {ll : List (List Atom)} (h : OkLoads ll) {j : Nat} (hj : j < ll.length) : ((unitsL ll[j]).length : Int) = totalL ll[0] := by
  rw [units_len (h.fine hj), h.fit j hj]
theorem load_units {l : List Atom} (h : valLoad l = 0) {k : Nat} (hk : k < (unitsL l).length) : -1000 ≤ (unitsL l)[k]?.getD 0 ∧ (unitsL l)[k]?.getD 0 ≤ 1000 := by
  obtain ⟨h1, h2⟩ := listErr_ok h
  rw [List.getElem?_eq_getElem hk, Option.getD_some]
  have hm : (unitsL l)[k] ∈ unitsL l := List.getElem_mem hk
  unfold unitsL at hm
  rw [List.mem_flatMap] at hm
  obtain ⟨x, hx, h3⟩ := hm
  obtain ⟨j, hj, rfl⟩ := List.getElem_of_mem hx
  have h4 := (goodAt_spec hj (isListB_at h2 hj)).1
  rw [List.mem_replicate] at h3
  have e : (unitsL l)[k] = l[j].p := h3.2
  rw [e]; exact h4

def weightsErr (ll : List (List Atom)) (ws : List Int) : Int := if ws.length ≠ ll.length then 1 else if ws.all (fun n => withinB n 1 9) then 0 else 1
def weighedErr (ll : List (List Atom)) (ws : List Int) : Int := if loadsErr ll ≠ 0 then loadsErr ll else weightsErr ll ws
theorem weightsErr_ok {ll : List (List Atom)} {ws : List Int} (h : weightsErr ll ws = 0) : ws.length = ll.length ∧ ∀ j, j < ws.length → 1 ≤ ws[j]?.getD 0 ∧ ws[j]?.getD 0 ≤ 9 := by
  unfold weightsErr at h
  by_cases h1 : ws.length = ll.length
  · rw [if_neg (by simpa using h1)] at h
    by_cases h2 : ws.all (fun n => withinB n 1 9) = true
    · refine ⟨h1, fun j hj => ?_⟩
      rw [List.getElem?_eq_getElem hj, Option.getD_some]
      exact withinB_iff.1 (List.all_eq_true.1 h2 _ (List.getElem_mem hj))
    · rw [if_neg h2] at h; simp at h
  · rw [if_pos h1] at h; simp at h

/-- the places of unit k in all loads -/
def placesL (ll : List (List Atom)) (k : Nat) : List Int := ll.map fun l => (unitsL l)[k]?.getD 0
theorem placesL_length (ll : List (List Atom)) (k : Nat) : (placesL ll k).length = ll.length := by simp [placesL]
theorem placesL_at {ll : List (List Atom)} {k j : Nat} (hj : j < ll.length) : (placesL ll k)[j]?.getD 0 = (unitsL ll[j])[k]?.getD 0 := by simp [placesL, hj]
theorem placesL_bd {ll : List (List Atom)} (h : OkLoads ll) {k : Nat} (hk : (k : Int) < totalL (ll[0]?.getD [])) {j : Nat} (hj : j < ll.length) : -1000 ≤ (placesL ll k)[j]?.getD 0 ∧ (placesL ll k)[j]?.getD 0 ≤ 1000 := by
  rw [placesL_at hj]
  have h0 := h.pos
  rw [List.getElem?_eq_getElem (by omega), Option.getD_some] at hk
  exact load_units (h.load j hj) (by have := h.units hj; omega)

/-- one more unit at place p -/
def addU (out : List Atom) (p : Int) : List Atom :=
  match out.getLast? with
  | some x => if x.p = p then out.set (out.length - 1) { x with m := x.m + 1 } else out ++ [⟨p, 1⟩]
  | none => out ++ [⟨p, 1⟩]
def collectL (l : List Int) : List Atom := l.foldl addU []
theorem collect_take {l : List Int} {k : Nat} (hk : k < l.length) : collectL (l.take (k + 1)) = addU (collectL (l.take k)) (l[k]?.getD 0) := by
  unfold collectL
  rw [List.take_succ_eq_append_getElem hk, List.foldl_append, List.getElem?_eq_getElem hk]; rfl
theorem addU_hit {out : List Atom} {p : Int} (h0 : 0 < out.length) (h : (out[out.length - 1]'(by omega)).p = p) : addU out p = out.set (out.length - 1) { out[out.length - 1]'(by omega) with m := (out[out.length - 1]'(by omega)).m + 1 } := by
  unfold addU
  rw [List.getLast?_eq_getElem?, List.getElem?_eq_getElem (by omega)]
  simp only
  rw [if_pos h]
theorem addU_miss {out : List Atom} {p : Int} (h0 : 0 < out.length) (h : (out[out.length - 1]'(by omega)).p ≠ p) : addU out p = out ++ [⟨p, 1⟩] := by
  unfold addU
  rw [List.getLast?_eq_getElem?, List.getElem?_eq_getElem (by omega)]
  simp only
  rw [if_neg h]
theorem addU_first {p : Int} : addU [] p = [⟨p, 1⟩] := rfl
theorem addU_length (out : List Atom) (p : Int) : (addU out p).length ≤ out.length + 1 := by
  unfold addU; split
  · split <;> simp
  · simp
/-- the masses of what is collected -/
theorem addU_mass {out : List Atom} {n : Int} (h : ∀ j, (hj : j < out.length) → 1 ≤ out[j].m ∧ out[j].m ≤ n) (hn : 0 ≤ n) (p : Int) : ∀ j, (hj : j < (addU out p).length) → 1 ≤ (addU out p)[j].m ∧ (addU out p)[j].m ≤ n + 1 := by
  intro j hj
  have hmem : (addU out p)[j] ∈ addU out p := List.getElem_mem hj
  have key : ∀ x, x ∈ addU out p → 1 ≤ x.m ∧ x.m ≤ n + 1 := by
    intro x hx
    by_cases h0 : 0 < out.length
    · by_cases hp : (out[out.length - 1]'(by omega)).p = p
      · rw [addU_hit h0 hp] at hx
        rcases List.mem_or_eq_of_mem_set hx with h1 | h1
        · obtain ⟨i, hi, rfl⟩ := List.getElem_of_mem h1
          have := h i hi; omega
        · rw [h1]; have := h (out.length - 1) (by omega); simp only; omega
      · rw [addU_miss h0 hp] at hx
        rcases List.mem_append.1 hx with h1 | h1
        · obtain ⟨i, hi, rfl⟩ := List.getElem_of_mem h1
          have := h i hi; omega
        · simp at h1; rw [h1]; simp only; omega
    · obtain rfl : out = [] := List.eq_nil_of_length_eq_zero (by omega)
      rw [addU_first] at hx; simp at hx; rw [hx]; simp only; omega
  exact key _ hmem
theorem collect_mass (l : List Int) : ∀ k, k ≤ l.length → (collectL (l.take k)).length ≤ k ∧ ∀ j, (hj : j < (collectL (l.take k)).length) → 1 ≤ (collectL (l.take k))[j].m ∧ (collectL (l.take k))[j].m ≤ k
  | 0, _ => by simp [collectL]
  | k + 1, hk => by
    have ih := collect_mass l k (by omega)
    have h1 := addU_length (collectL (l.take k)) (l[k]?.getD 0)
    have h2 := addU_mass ih.2 (by omega) (l[k]?.getD 0)
    rw [← collect_take (by omega)] at h1
    refine ⟨by omega, fun j hj => ?_⟩
    have h3 := h2 j (by rw [← collect_take (by omega)]; exact hj)
    simp only [← collect_take (show k < l.length by omega)] at h3
    omega
end Go.Proofs.Ytgnjaapjaglleaa
