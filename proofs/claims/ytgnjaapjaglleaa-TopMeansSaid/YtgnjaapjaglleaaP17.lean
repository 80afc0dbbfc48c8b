/- The area between two heaps is the sum of the distances of their units, in order. -/
import Derived.Test.YtgnjaapjaglleaaP16
import Derived.Test.YtgnjaapjaglleaaT22
namespace Go.Proofs.Ytgnjaapjaglleaa

def indI (b : Bool) : Int := if b then 1 else 0
theorem gap_line {a b : Int} (ha : -1000 ≤ a ∧ a ≤ 1000) (hb : -1000 ≤ b ∧ b ≤ 1000) (hab : a ≤ b) : ∀ j : Nat, j ≤ 2000 →
    sumR (fun i => distI (indI (decide (b ≤ (i : Int) - 1000))) (indI (decide (a ≤ (i : Int) - 1000)))) j = if (j : Int) ≤ a + 1000 then 0 else if (j : Int) ≤ b + 1000 then (j : Int) - (a + 1000) else b - a
  | 0, _ => by simp only [sumR]; rw [if_pos (by omega)]
  | j + 1, hj => by
    have ih := gap_line ha hb hab j (by omega)
    simp only [sumR]
    rw [ih]
    by_cases h1 : a ≤ (j : Int) - 1000
    · rw [decide_eq_true h1]
      by_cases h2 : b ≤ (j : Int) - 1000
      · rw [decide_eq_true h2]
        have e : distI (indI true) (indI true) = 0 := rfl
        rw [e]
        split <;> split <;> (try split) <;> (try split) <;> omega
      · rw [decide_eq_false h2]
        have e : distI (indI false) (indI true) = 1 := rfl
        rw [e]
        split <;> split <;> (try split) <;> (try split) <;> omega
    · rw [decide_eq_false h1, decide_eq_false (show ¬ b ≤ (j : Int) - 1000 by omega)]
      have e : distI (indI false) (indI false) = 0 := rfl
      rw [e]
      split <;> split <;> (try split) <;> (try split) <;> omega
theorem gap_sum {a b : Int} (ha : -1000 ≤ a ∧ a ≤ 1000) (hb : -1000 ≤ b ∧ b ≤ 1000) :
    sumR (fun i => distI (indI (decide (b ≤ (i : Int) - 1000))) (indI (decide (a ≤ (i : Int) - 1000)))) 2000 = distI a b := by
  by_cases hab : a ≤ b
  · rw [gap_line ha hb hab 2000 (Nat.le_refl _)]
    unfold distI
    rw [if_pos hab]
    split <;> (try split) <;> omega
  · rw [sumR_congr (n := 2000) (g := fun i => distI (indI (decide (a ≤ (i : Int) - 1000))) (indI (decide (b ≤ (i : Int) - 1000)))) (fun i _ => distI_symm _ _) 2000 (Nat.le_refl _),
      gap_line hb ha (by omega) 2000 (Nat.le_refl _)]
    unfold distI
    rw [if_neg hab]
    split <;> (try split) <;> omega
theorem pre_sum (p q : Nat) : ∀ n : Nat, sumR (fun k => distI (indI (decide (k < q))) (indI (decide (k < p)))) n = distI ((min q n : Nat) : Int) ((min p n : Nat) : Int)
  | 0 => by simp [sumR, distI]
  | n + 1 => by
    simp only [sumR]
    rw [pre_sum p q n]
    by_cases h1 : n < p
    · by_cases h2 : n < q
      · rw [decide_eq_true h1, decide_eq_true h2]
        have e : distI (indI true) (indI true) = 0 := rfl
        rw [e]; unfold distI; split <;> split <;> omega
      · rw [decide_eq_true h1, decide_eq_false h2]
        have e : distI (indI false) (indI true) = 1 := rfl
        rw [e]; unfold distI; split <;> split <;> omega
    · by_cases h2 : n < q
      · rw [decide_eq_false h1, decide_eq_true h2]
        have e : distI (indI true) (indI false) = 1 := rfl
        rw [e]; unfold distI; split <;> split <;> omega
      · rw [decide_eq_false h1, decide_eq_false h2]
        have e : distI (indI false) (indI false) = 0 := rfl
        rw [e]; unfold distI; split <;> split <;> omega
theorem bel_count {l : List Atom} (hF : Fine l) (t : Int) : belTo l t l.length = ((unitsL l).countP (fun x => decide (x ≤ t)) : Nat) := by
  have key : ∀ k, k ≤ l.length → belTo l t k = ((unitsL (l.take k)).countP (fun x => decide (x ≤ t)) : Nat) := fun k => by
    induction k with
    | zero => intro _; simp [belTo, sumR, unitsL]
    | succ k ih =>
      intro hk
      have ih := ih (by omega)
      have hm := hF.2 k (by omega)
      have e : unitsL (l.take (k + 1)) = unitsL (l.take k) ++ List.replicate l[k].m.toNat l[k].p := by
        rw [List.take_succ_eq_append_getElem (by omega)]; unfold unitsL; rw [List.flatMap_append]; simp only [List.flatMap_cons, List.flatMap_nil, List.append_nil]
      unfold belTo at ih ⊢
      simp only [sumR]
      rw [ih, e, List.countP_append, atK_at (by omega)]
      by_cases h : l[k].p ≤ t
      · rw [if_pos h]
        have : (List.replicate l[k].m.toNat l[k].p).countP (fun x => decide (x ≤ t)) = l[k].m.toNat := by
          rw [List.countP_eq_length.2]
          · simp
          · intro a ha; rw [List.eq_of_mem_replicate ha]; exact decide_eq_true h
        omega
      · rw [if_neg h]
        have : (List.replicate l[k].m.toNat l[k].p).countP (fun x => decide (x ≤ t)) = 0 := by
          rw [List.countP_eq_zero]
          intro a ha; rw [List.eq_of_mem_replicate ha]; simpa using h
        omega
  have := key l.length (Nat.le_refl _)
  rwa [List.take_length] at this
theorem load_asc {l : List Atom} (h : valLoad l = 0) : Asc (unitsL l) ∧ ∀ k, k < (unitsL l).length → -1000 ≤ gi (unitsL l) k ∧ gi (unitsL l) k ≤ 1000 := by
  obtain ⟨l1, l2⟩ := listErr_ok h
  refine ⟨units_asc l2, fun k hk => ?_⟩
  have hx := gi_mem hk
  unfold unitsL at hx
  obtain ⟨y, hy, hz⟩ := List.mem_flatMap.1 hx
  have e := List.eq_of_mem_replicate hz
  have hb := (isListB_mem l2 hy).1
  unfold unitsL
  omega
/-- the area is the sum of the distances -/
theorem area_said {l m : List Atom} (h : linePair l m = 0) : areaTo l m 2000 = apartL l m 1 := by
  obtain ⟨h1, h2, h3⟩ := linePair_ok h
  obtain ⟨a1, a2⟩ := load_asc h1
  obtain ⟨b1, b2⟩ := load_asc h2
  have hl := units_eq (fine_load h1) (fine_load h2) h3
  unfold apartL
  rw [apartTo_sum]
  rw [sumR_congr (n := (unitsL l).length) (g := fun k => sumR (fun i => distI (indI (decide (gi (unitsL m) k ≤ (i : Int) - 1000))) (indI (decide (gi (unitsL l) k ≤ (i : Int) - 1000)))) 2000) (fun k hk => by
    rw [gap_sum (a2 k hk) (b2 k (by omega))]; unfold priceV; rw [if_neg (by omega)]) _ (Nat.le_refl _), sumR_swap]
  unfold areaTo
  refine sumR_congr (n := 2000) (fun i _ => ?_) _ (Nat.le_refl _)
  rw [bel_count (fine_load h1), bel_count (fine_load h2)]
  generalize (i : Int) - 1000 = t
  rw [sumR_congr (n := (unitsL l).length) (g := fun k => distI (indI (decide (k < (unitsL m).countP (fun x => decide (x ≤ t))))) (indI (decide (k < (unitsL l).countP (fun x => decide (x ≤ t)))))) (fun k hk => by
    have r1 := rank_iff (asc_pw a1) (r := k) (t := t) hk
    have r2 := rank_iff (asc_pw b1) (r := k) (t := t) (by omega)
    rw [show decide (gi (unitsL m) k ≤ t) = decide (k < (unitsL m).countP (fun x => decide (x ≤ t))) from decide_eq_decide.2 r2,
      show decide (gi (unitsL l) k ≤ t) = decide (k < (unitsL l).countP (fun x => decide (x ≤ t))) from decide_eq_decide.2 r1]) _ (Nat.le_refl _), pre_sum]
  have c1 := List.countP_le_length (p := fun x => decide (x ≤ t)) (l := unitsL l)
  have c2 := List.countP_le_length (p := fun x => decide (x ≤ t)) (l := unitsL m)
  rw [Nat.min_eq_left (by omega), Nat.min_eq_left (by omega)]
end Go.Proofs.Ytgnjaapjaglleaa
