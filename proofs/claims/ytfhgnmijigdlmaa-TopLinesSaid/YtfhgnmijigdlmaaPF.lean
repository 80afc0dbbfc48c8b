/- Sorted lists compacted: the places of two loads. No program in sight. -/
import Derived.Lib.SlicesCompact
import Derived.Test.YtfhgnmijigdlmaaPE
namespace Go.Proofs.Ytfhgnmijigdlmaa
open Go.Lib

theorem strict_ext : ∀ {l m : List Int}, l.Pairwise (· < ·) → m.Pairwise (· < ·) → (∀ x, x ∈ l ↔ x ∈ m) → l = m
  | [], [], _, _, _ => rfl
  | [], y :: m, _, _, h => by have := (h y).2 List.mem_cons_self; simp at this
  | x :: l, [], _, _, h => by have := (h x).1 List.mem_cons_self; simp at this
  | x :: l, y :: m, hl, hm, h => by
    rw [List.pairwise_cons] at hl hm
    have e : x = y := by
      have h1 := (h x).1 List.mem_cons_self
      have h2 := (h y).2 List.mem_cons_self
      rcases List.mem_cons.1 h1 with h1 | h1
      · exact h1
      · rcases List.mem_cons.1 h2 with h2 | h2
        · exact h2.symm
        · have := hl.1 y h2; have := hm.1 x h1; omega
    subst e
    rw [strict_ext hl.2 hm.2 fun z => ?_]
    constructor
    · intro hz
      rcases List.mem_cons.1 ((h z).1 (List.mem_cons_of_mem _ hz)) with e | e
      · have := hl.1 z hz; omega
      · exact e
    · intro hz
      rcases List.mem_cons.1 ((h z).2 (List.mem_cons_of_mem _ hz)) with e | e
      · have := hm.1 z hz; omega
      · exact e
/-- the numbers in ascending order -/
def sortI (l : List Int) : List Int := l.mergeSort fun x y => decide (x ≤ y)
theorem sortI_perm (l : List Int) : (sortI l).Perm l := List.mergeSort_perm l _
theorem sortI_length (l : List Int) : (sortI l).length = l.length := (sortI_perm l).length_eq
theorem sortI_pw (l : List Int) : (sortI l).Pairwise (· ≤ ·) := by
  have := List.pairwise_mergeSort (le := fun x y : Int => decide (x ≤ y)) (fun a b c h1 h2 => by simp at *; omega) (fun a b => by simp; omega) l
  exact this.imp fun h => by simpa using h
theorem compactUpTo_said {zs : List Int} (hs : zs.Pairwise (· ≤ ·)) : ∀ m, m ≤ zs.length → (compactUpTo zs.toArray m).Pairwise (· < ·) ∧ (∀ x, x ∈ compactUpTo zs.toArray m ↔ x ∈ zs.take m) ∧ ∀ x ∈ compactUpTo zs.toArray m, ∀ h : m - 1 < zs.length, x ≤ zs[m - 1]
  | 0, _ => by simp [compactUpTo]
  | m + 1, hm => by
    obtain ⟨h1, h2, h3⟩ := compactUpTo_said hs m (by omega)
    have e0 : zs.toArray[m]! = zs[m] := by simp [show m < zs.length by omega]
    rw [List.pairwise_iff_getElem] at hs
    rw [compactUpTo_succ, e0, List.take_succ_eq_append_getElem (by omega)]
    simp only [Nat.add_sub_cancel]
    have hle : ∀ x ∈ compactUpTo zs.toArray m, x ≤ zs[m] := fun x hx => by
      obtain ⟨j, hj, e⟩ := List.getElem_of_mem ((h2 x).1 hx)
      rw [List.length_take] at hj
      rw [List.getElem_take] at e
      rw [← e]; exact hs j m (by omega) (by omega) (by omega)
    by_cases hk : keeps zs.toArray m = true
    · rw [if_pos hk]
      have hlt : ∀ x ∈ compactUpTo zs.toArray m, x < zs[m] := fun x hx => by
        unfold keeps at hk
        have := h3 x hx (by omega)
        cases m with
        | zero => simp [compactUpTo] at hx
        | succ m =>
          simp only [Nat.add_sub_cancel] at *
          have e1 : zs.toArray[m]! = zs[m] := by simp [show m < zs.length by omega]
          simp only [decide_eq_true_eq] at hk
          rw [e0, e1] at hk
          have h5 := hs m (m + 1) (by omega) (by omega) (by omega)
          rcases hk with hk | hk
          · omega
          · omega
      refine ⟨?_, fun x => ?_, fun x hx _ => ?_⟩
      · rw [List.pairwise_append]
        exact ⟨h1, List.pairwise_singleton _ _, fun a ha b hb => by simp at hb; subst hb; exact hlt a ha⟩
      · rw [List.mem_append, List.mem_append, h2]
      · rcases List.mem_append.1 hx with hx | hx
        · exact hle x hx
        · simp at hx; omega
    · rw [if_neg hk, List.append_nil]
      refine ⟨h1, fun x => ?_, fun x hx _ => hle x hx⟩
      rw [List.mem_append, h2]
      constructor
      · exact .inl
      · rintro (h | h)
        · exact h
        · simp at h
          subst h
          unfold keeps at hk
          simp only [decide_eq_true_eq, not_or] at hk
          obtain ⟨hm0, hk⟩ := hk
          have e1 : zs.toArray[m - 1]! = zs[m - 1] := by simp [show m - 1 < zs.length by omega]
          rw [e0, e1] at hk
          have hk : zs[m] = zs[m - 1] := by simpa using hk
          rw [hk]
          exact List.mem_iff_getElem.2 ⟨m - 1, by rw [List.length_take]; omega, by rw [List.getElem_take]⟩
theorem compact_said {zs : List Int} (hs : zs.Pairwise (· ≤ ·)) : (compact zs).Pairwise (· < ·) ∧ ∀ x, x ∈ compact zs ↔ x ∈ zs := by
  have h := compactUpTo_said hs zs.length (Nat.le_refl _)
  rw [List.take_length] at h
  exact ⟨h.1, h.2.1⟩
theorem massAt_pos {l : List Atom} (hF : Fine l) (p : Int) : 0 < massAt l p ↔ ∃ x ∈ l, x.p = p := by
  constructor
  · intro h
    unfold massAt at h
    split at h
    · next x hx =>
      exact ⟨x, List.mem_of_find?_eq_some hx, by simpa using List.find?_some hx⟩
    · omega
  · rintro ⟨x, hx, rfl⟩
    unfold massAt
    cases h : l.find? (fun y => decide (y.p = x.p)) with
    | none =>
      rw [List.find?_eq_none] at h
      have := h x hx
      simp at this
    | some y =>
      simp only
      obtain ⟨j, hj, e⟩ := List.getElem_of_mem (List.mem_of_find?_eq_some h)
      have := (hF.2 j hj).2
      rw [← e]; omega
/-- the program's places are the reference's -/
theorem places_said {a b : List Atom} (ha : valLoad a = 0) (hb : valLoad b = 0) : compact (sortI ((a ++ b).map (·.p))) = placesL2 a b := by
  obtain ⟨h1, h2⟩ := compact_said (sortI_pw ((a ++ b).map (·.p)))
  refine strict_ext h1 (places_pw a b 2001) fun x => ?_
  unfold placesL2
  rw [h2, (sortI_perm _).mem_iff, places_mem, List.mem_map]
  unfold onPlace
  simp only [Bool.or_eq_true, decide_eq_true_eq]
  rw [massAt_pos (fine_load ha), massAt_pos (fine_load hb)]
  constructor
  · rintro ⟨y, hy, rfl⟩
    rcases List.mem_append.1 hy with hy | hy
    · exact ⟨by have := (valLoad_in ha).2.1 y hy; omega, .inl ⟨y, hy, rfl⟩⟩
    · exact ⟨by have := (valLoad_in hb).2.1 y hy; omega, .inr ⟨y, hy, rfl⟩⟩
  · rintro ⟨_, ⟨y, hy, e⟩ | ⟨y, hy, e⟩⟩
    · exact ⟨y, List.mem_append_left _ hy, e⟩
    · exact ⟨y, List.mem_append_right _ hy, e⟩
theorem compact_le (zs : List Int) : (compact zs).length ≤ zs.length := by
  unfold compact compactUpTo
  rw [List.length_map]
  have := List.length_filter_le (keeps zs.toArray) (List.range zs.length)
  simpa using this
theorem places_len {a b : List Atom} (ha : valLoad a = 0) (hb : valLoad b = 0) : (placesL2 a b).length ≤ a.length + b.length := by
  rw [← places_said ha hb]
  have := compact_le (sortI ((a ++ b).map (·.p)))
  rw [sortI_length] at this
  simpa using this
end Go.Proofs.Ytfhgnmijigdlmaa
