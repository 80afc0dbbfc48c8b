/- MeanMedians (no program in sight) -/
import Derived.Test.YtgnjaapjaglleaaP15
namespace Go.Proofs.Ytgnjaapjaglleaa

def medErr (ll : List (List Atom)) (m : List Atom) : Int := if loadsErr ll ≠ 0 then loadsErr ll else if valAtoms m ≠ 0 then valAtoms m else if totalL m ≠ totalL (gl ll 0) then 5 else 0
def medAt (ll : List (List Atom)) (m : List Atom) (k : Nat) : Bool := decide (midL (placesL ll k) ≤ gi (unitsL m) k) && decide (gi (unitsL m) k ≤ midU (placesL ll k))
def medB (ll : List (List Atom)) (m : List Atom) : Bool := decide (medErr ll m = 0) && (List.range (unitsN ll)).all (medAt ll m)
theorem medErr_ok {ll : List (List Atom)} {m : List Atom} (h : medErr ll m = 0) : loadsErr ll = 0 ∧ valAtoms m = 0 ∧ totalL m = totalL (gl ll 0) := by
  unfold medErr at h
  by_cases h1 : loadsErr ll = 0
  · rw [if_neg (by simpa using h1)] at h
    by_cases h2 : valAtoms m = 0
    · rw [if_neg (by simpa using h2)] at h
      by_cases h4 : totalL m = totalL (gl ll 0)
      · exact ⟨h1, h2, h4⟩
      · rw [if_pos h4] at h; simp at h
    · rw [if_pos h2] at h; exact absurd h h2
  · rw [if_pos h1] at h; exact absurd h h1
def onesL (n : Nat) : List Int := List.replicate n 1
theorem gi_ones {n i : Nat} (h : i < n) : gi (onesL n) i = 1 := by simp [gi, onesL, h]
theorem ones_err (ll : List (List Atom)) : weightsErr ll (onesL ll.length) = 0 := by
  unfold weightsErr
  rw [if_neg (by simp [onesL]), if_pos]
  rw [List.all_eq_true]
  intro x hx
  have := List.eq_of_mem_replicate hx
  exact withinB_iff.2 (by omega)
theorem med_sumErr {ll : List (List Atom)} {m : List Atom} (h : medErr ll m = 0) : sumErr ll (onesL ll.length) m 1 = 0 := by
  obtain ⟨h1, h2, h3⟩ := medErr_ok h
  unfold sumErr
  rw [h1, h2, ones_err, h3]
  simp [kindB]
theorem sum_range (f : Nat → Int) : ∀ n, ((List.range n).map f).sum = sumR f n
  | 0 => rfl
  | n + 1 => by rw [List.range_succ, List.map_append, List.sum_append, sum_range f n]; simp [sumR]
theorem farS_sum (P : List Int) (t : Int) : farS P t = sumR (fun i => distI (gi P i) t) P.length := by
  have h : P.map (fun p => distI p t) = (List.range P.length).map (fun i => distI (gi P i) t) := list_eq (by simp) fun j hj => by simp at hj; simp [gi, hj]
  unfold farS
  rw [h, sum_range]
theorem sumR_eq_iff {f g : Nat → Int} : ∀ n, (∀ i, i < n → f i ≤ g i) → (sumR f n = sumR g n ↔ ∀ i, i < n → f i = g i)
  | 0, _ => by simp [sumR]
  | n + 1, h => by
    have ih := sumR_eq_iff n (fun i hi => h i (by omega))
    have hle := sumR_le (f := f) (g := g) (n := n) (fun i hi => h i (by omega)) n (Nat.le_refl _)
    have hn := h n (by omega)
    simp only [sumR]
    constructor
    · intro e i hi
      by_cases hin : i = n
      · subst hin; omega
      · exact ih.1 (by omega) i (by omega)
    · intro e
      have := ih.2 (fun i hi => e i (by omega))
      have := e n (by omega)
      omega
theorem med_sum {ll : List (List Atom)} {m : List Atom} (h : medErr ll m = 0) : sumV ll (onesL ll.length) m 1 = sumR (fun k => farS (placesL ll k) (gi (unitsL m) k)) (unitsN ll) := by
  obtain ⟨h1, h2, h3⟩ := medErr_ok h
  have hok := loadsErr_ok h1
  have h0 := hok.pos
  have hN1 := (unitsN_bd hok).1
  rw [List.getElem?_eq_getElem (by omega), Option.getD_some] at hN1
  unfold sumV
  rw [if_pos (med_sumErr h)]
  unfold sumAp
  rw [sumR_congr (n := ll.length) (g := fun i => sumR (fun k => distI (gi (unitsL (gl ll i)) k) (gi (unitsL m) k)) (unitsN ll)) (fun i hi => by
    have hu := hok.units hi
    rw [gi_ones hi, Int.one_mul]
    unfold apartL
    rw [apartTo_sum, gl_at hi, show (unitsL ll[i]).length = unitsN ll by omega]
    exact sumR_congr (n := unitsN ll) (fun k _ => by unfold priceV; rw [if_neg (by omega)]) _ (Nat.le_refl _)) ll.length (Nat.le_refl _), sumR_swap]
  refine sumR_congr (n := unitsN ll) (fun k _ => ?_) _ (Nat.le_refl _)
  rw [farS_sum, placesL_length]
  exact sumR_congr (n := ll.length) (fun i hi => by rw [gi_places hi]) _ (Nat.le_refl _)
theorem midL_at (ll : List (List Atom)) (k : Nat) : midL (placesL ll k) = gi (sortI (placesL ll k)) ((ll.length - 1) / 2) := by unfold midL; rw [placesL_length]
theorem medians_said {ll : List (List Atom)} {m : List Atom} (h : medErr ll m = 0) :
    medErr ll (rankL ll ((ll.length - 1) / 2)) = 0 ∧ medB ll (rankL ll ((ll.length - 1) / 2)) = true ∧
    sumV ll (onesL ll.length) (rankL ll ((ll.length - 1) / 2)) 1 ≤ sumV ll (onesL ll.length) m 1 ∧
    decide (sumV ll (onesL ll.length) (rankL ll ((ll.length - 1) / 2)) 1 = sumV ll (onesL ll.length) m 1) = medB ll m := by
  obtain ⟨h1, h2, h3⟩ := medErr_ok h
  have hok := loadsErr_ok h1
  have h0 := hok.pos
  have ha : medErr ll (rankL ll ((ll.length - 1) / 2)) = 0 := by
    unfold medErr
    rw [h1, rank_valid hok (by omega), rank_total hok]; simp
  have hu : ∀ k, k < unitsN ll → gi (unitsL (rankL ll ((ll.length - 1) / 2))) k = midL (placesL ll k) := fun k hk => by
    rw [rank_units, gi_rank hk, midL_at]
  have hP : ∀ k, 0 < (placesL ll k).length := fun k => by rw [placesL_length]; omega
  have hle : ∀ k, k < unitsN ll → farS (placesL ll k) (gi (unitsL (rankL ll ((ll.length - 1) / 2))) k) ≤ farS (placesL ll k) (gi (unitsL m) k) := fun k hk => by
    rw [hu k hk]; exact (med_said (hP k) _).1
  refine ⟨ha, ?_, ?_, ?_⟩
  · unfold medB
    rw [ha, Bool.and_eq_true, List.all_eq_true]
    refine ⟨by simp, fun k hk => ?_⟩
    rw [List.mem_range] at hk
    unfold medAt
    rw [hu k hk, Bool.and_eq_true]
    exact ⟨decide_eq_true (Int.le_refl _), decide_eq_true (med_mono (hP k))⟩
  · rw [med_sum ha, med_sum h]
    exact sumR_le (n := unitsN ll) hle _ (Nat.le_refl _)
  · rw [med_sum ha, med_sum h]
    rw [Bool.eq_iff_iff, decide_eq_true_eq, sumR_eq_iff _ hle]
    unfold medB
    rw [h, Bool.and_eq_true, List.all_eq_true]
    constructor
    · intro e
      refine ⟨by simp, fun k hk => ?_⟩
      rw [List.mem_range] at hk
      have e1 := e k hk
      rw [hu k hk] at e1
      have := (med_said (hP k) (gi (unitsL m) k)).2.1 e1
      unfold medAt
      rw [Bool.and_eq_true]
      exact ⟨decide_eq_true this.1, decide_eq_true this.2⟩
    · rintro ⟨-, e⟩ k hk
      have e1 := e k (List.mem_range.2 hk)
      unfold medAt at e1
      rw [Bool.and_eq_true] at e1
      rw [hu k hk]
      exact (med_said (hP k) _).2.2 ⟨of_decide_eq_true e1.1, of_decide_eq_true e1.2⟩
end Go.Proofs.Ytgnjaapjaglleaa
