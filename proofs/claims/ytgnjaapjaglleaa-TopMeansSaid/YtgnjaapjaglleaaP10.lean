/- The mean is a right list; it reaches the least sum. -/
import Derived.Test.YtgnjaapjaglleaaP9
namespace Go.Proofs.Ytgnjaapjaglleaa

def sumN (f : Nat → Nat) : Nat → Nat
  | 0 => 0
  | n + 1 => sumN f n + f n
theorem sumN_le {f g : Nat → Nat} {n : Nat} (h : ∀ i, i < n → f i ≤ g i) : ∀ k, k ≤ n → sumN f k ≤ sumN g k
  | 0, _ => Nat.le_refl _
  | k + 1, hk => by have := sumN_le h k (by omega); have := h k (by omega); simp only [sumN]; omega
theorem sumN_lt {f g : Nat → Nat} {n : Nat} (h : ∀ i, i < n → f i ≤ g i) : ∀ k, k ≤ n → (∃ i, i < k ∧ f i < g i) → sumN f k + 1 ≤ sumN g k
  | 0, _, ⟨i, hi, _⟩ => by omega
  | k + 1, hk, ⟨i, hi, hlt⟩ => by
    have h1 := h k (by omega)
    simp only [sumN]
    by_cases e : i = k
    · subst e; have := sumN_le h i (by omega); omega
    · have := sumN_lt h k (by omega) ⟨i, by omega, hlt⟩; omega
theorem sumN_const (c : Nat) : ∀ k, sumN (fun _ => c) k = k * c
  | 0 => by simp [sumN]
  | k + 1 => by simp only [sumN]; rw [sumN_const c k, Nat.add_mul, Nat.one_mul]
theorem chg_le {U : List Int} {X : Nat → List Int} {L : Nat} : ∀ n, (∀ k, k < n → (∀ i, i < L → gi (X i) k = gi (X i) (k + 1)) → gi U k = gi U (k + 1)) → chgN U n ≤ sumN (fun i => chgN (X i) n) L
  | 0, _ => by simp [chgN]
  | n + 1, h => by
    have ih := chg_le n (fun k hk => h k (by omega))
    have hle : ∀ i, i < L → chgN (X i) n ≤ chgN (X i) (n + 1) := fun i _ => by simp [chgN]
    by_cases hc : gi U n = gi U (n + 1)
    · have e : chgN U (n + 1) = chgN U n := by simp [chgN, hc]
      rw [e]
      exact Nat.le_trans ih (sumN_le hle L (Nat.le_refl _))
    · have e : chgN U (n + 1) = chgN U n + 1 := by simp [chgN, hc]
      rw [e]
      have hex : ∃ i, i < L ∧ chgN (X i) n < chgN (X i) (n + 1) := Classical.byContradiction fun hno => hc (h n (by omega) fun i hi => Classical.byContradiction fun hne => hno ⟨i, hi, by simp [chgN, hne]⟩)
      have := sumN_lt hle L (Nat.le_refl _) hex
      omega
/-- the units of a load -/
theorem gi_places {ll : List (List Atom)} {k j : Nat} (hj : j < ll.length) : gi (placesL ll k) j = gi (unitsL (gl ll j)) k := by
  rw [gl_at hj]; exact placesL_at hj
/-- a list made of the units of all loads, unit by unit -/
theorem made_valid {ll : List (List Atom)} {U : List Int} (h : OkLoads ll) (hlen : U.length = unitsN ll) (hasc : Asc U) (hp : ∀ j, j < U.length → -60000 ≤ gi U j ∧ gi U j ≤ 60000)
    (hchg : ∀ k, k + 1 < unitsN ll → (∀ i, i < ll.length → gi (unitsL (gl ll i)) k = gi (unitsL (gl ll i)) (k + 1)) → gi U k = gi U (k + 1)) : valAtoms (collectL U) = 0 := by
  have hN := unitsN_bd h
  have h5 := h.five
  have h1 := chg_le (U := U) (X := fun i => unitsL (gl ll i)) (L := ll.length) (unitsN ll - 1) (fun k hk => hchg k (by omega))
  have h2 : sumN (fun i => chgN (unitsL (gl ll i)) (unitsN ll - 1)) ll.length ≤ sumN (fun _ => 5) ll.length := sumN_le (n := ll.length) (fun i hi => by
    obtain ⟨a1, a2⟩ := listErr_ok (h.load i hi)
    have a3 := chg_units a2
    have a4 := h.units hi
    have h0 := h.pos
    have a5 := hN.1
    rw [List.getElem?_eq_getElem (by omega), Option.getD_some] at a5
    rw [show (unitsL ll[i]).length = unitsN ll by omega] at a3
    rw [gl_at hi]
    omega) _ (Nat.le_refl _)
  rw [sumN_const] at h2
  have h3 := collect_len U
  rw [hlen] at h3
  exact collect_valid hasc hp (fun y hy => by have := collect_mass_le hy; omega) (by omega)
theorem units_asc_at {ll : List (List Atom)} (h : OkLoads ll) {i : Nat} (hi : i < ll.length) {k : Nat} (hk : k + 1 < unitsN ll) : gi (unitsL (gl ll i)) k ≤ gi (unitsL (gl ll i)) (k + 1) := by
  rw [gl_at hi]
  have h0 := h.pos
  have a4 := h.units hi
  have a5 := (unitsN_bd h).1
  rw [List.getElem?_eq_getElem (by omega), Option.getD_some] at a5
  exact units_asc (listErr_ok (h.load i hi)).2 k (by omega)
theorem gi_means {ll : List (List Atom)} {ws : List Int} {k : Nat} (hk : k < unitsN ll) : gi (meansU ll ws) k = dotTo ws (placesL ll k) ll.length := by simp [gi, meansU, hk]
theorem means_valid {ll : List (List Atom)} {ws : List Int} (h : weighedErr ll ws = 0) : valAtoms (meansL ll ws) = 0 := by
  obtain ⟨hok, hws, hwb⟩ := weighed_ok h
  have h5 := hok.five
  rw [show meansL ll ws = collectL (meansU ll ws) by unfold meansL; rw [if_pos h]]
  refine made_valid hok (meansU_length ll ws) (fun j hj => ?_) (fun j hj => ?_) (fun k hk hi => ?_)
  · rw [meansU_length] at hj
    rw [gi_means (by omega), gi_means hj]
    refine sumR_le (n := ll.length) (fun i hi => ?_) _ (Nat.le_refl _)
    have h1 := units_asc_at hok hi hj
    have h2 := hwb i hi
    rw [gi_places hi, gi_places hi]
    exact Int.mul_le_mul_of_nonneg_left h1 (by omega)
  · rw [meansU_length] at hj
    rw [gi_means hj]
    have := (wp_of hok hwb hj).bd (Nat.le_refl _)
    omega
  · rw [gi_means (by omega), gi_means hk]
    refine sumR_congr (n := ll.length) (fun i hil => ?_) _ (Nat.le_refl _)
    rw [gi_places hil, gi_places hil, hi i hil]
theorem means_total {ll : List (List Atom)} {ws : List Int} (h : weighedErr ll ws = 0) : totalL (meansL ll ws) = totalL (gl ll 0) := by
  obtain ⟨hok, hws, hwb⟩ := weighed_ok h
  rw [show meansL ll ws = collectL (meansU ll ws) by unfold meansL; rw [if_pos h], collect_total, meansU_length, (unitsN_bd hok).1]
  rfl
/-- the loads, all places multiplied by the sum of the weights -/
theorem reach_scale {ll : List (List Atom)} {ws : List Int} (h : weighedErr ll ws = 0) {i : Nat} (hi : i < ll.length) : scaleErr ll[i] (sumTo ws ll.length) = 0 ∧ apartErr (scaleL ll[i] (sumTo ws ll.length)) (meansL ll ws) 2 = 0 := by
  obtain ⟨hok, hws, hwb⟩ := weighed_ok h
  have h5 := hok.five
  have hp := hok.pos
  have hs := sumR_bd (f := gi ws) (A := 1) (B := 9) hwb ll.length (Nat.le_refl _)
  rw [show sumR (gi ws) ll.length = sumTo ws ll.length from rfl] at hs
  have hl := hok.load i hi
  obtain ⟨l1, l2⟩ := listErr_ok hl
  have hv : valAtoms ll[i] = 0 := by
    have : isListB 60000 1000 ll[i] = true := isListB_of (fun y hy => by have := isListB_mem l2 hy; omega) (isListB_pw l2)
    unfold valAtoms listErr; rw [if_neg (by omega), this]; rfl
  generalize sumTo ws ll.length = A at *
  have hall : ll[i].all (scOk A) = true := by
    rw [List.all_eq_true]
    intro y hy
    have h1 := isListB_mem l2 hy
    have h2 := mulbd (a := y.p) (b := A) (A := 1000) (B := 45) (by omega) (by omega)
    exact withinB_iff.2 (by omega)
  have hw : withinB A 1 60 = true := withinB_iff.2 (by omega)
  refine ⟨by unfold scaleErr; rw [hv, hw, hall]; simp, apartErr_mk ?_ rfl⟩
  unfold pairErr
  rw [scale_valid hv (by omega) hall, means_valid h, scale_total, means_total h, hok.fit i hi, gl_at (by omega)]
  simp
/-- .. cost as much as the least sum says -/
theorem reach_sum {ll : List (List Atom)} {ws : List Int} (h : weighedErr ll ws = 0) :
    sumR (fun i => gi ws i * apartV (scaleL (gl ll i) (sumTo ws ll.length)) (meansL ll ws) 2) ll.length = sumTo ws ll.length * leastTo ll ws (unitsN ll) := by
  obtain ⟨hok, hws, hwb⟩ := weighed_ok h
  have hp := hok.pos
  have e1 : ∀ i, i < ll.length → gi ws i * apartV (scaleL (gl ll i) (sumTo ws ll.length)) (meansL ll ws) 2 = sumR (fun q => gi ws i * ((dotTo ws (placesL ll q) ll.length - gi (placesL ll q) i * sumTo ws ll.length) * (dotTo ws (placesL ll q) ll.length - gi (placesL ll q) i * sumTo ws ll.length))) (unitsN ll) := fun i hi => by
    rw [sumR_mul]
    congr 1
    unfold apartV
    rw [gl_at hi, if_pos (reach_scale h hi).2]
    unfold apartL
    rw [scale_units, List.length_map, apartTo_sum]
    have a4 := hok.units hi
    have a5 := (unitsN_bd hok).1
    rw [List.getElem?_eq_getElem (by omega), Option.getD_some] at a5
    rw [show (unitsL ll[i]).length = unitsN ll by omega]
    refine sumR_congr (n := unitsN ll) (fun q hq => ?_) _ (Nat.le_refl _)
    rw [gi_map, priceV_two, show meansL ll ws = collectL (meansU ll ws) by unfold meansL; rw [if_pos h], units_collect, gi_means hq, gi_places hi, gl_at hi]
  rw [sumR_congr (n := ll.length) e1 _ (Nat.le_refl _), sumR_swap, ]
  unfold leastTo
  rw [← sumR_mul]
  refine sumR_congr (n := unitsN ll) (fun q _ => ?_) _ (Nat.le_refl _)
  have e2 : ∀ (P : List Int) (A B : Int) n, sumR (fun i => gi ws i * ((B - gi P i * A) * (B - gi P i * A))) n = B * B * sumTo ws n - 2 * A * B * dotTo ws P n + A * A * sqTo ws P n := fun P A B n => by
    induction n with
    | zero => simp [sumR, sumTo, dotTo, sqTo]
    | succ n ih =>
      simp only [sumR, sumTo, dotTo, sqTo] at ih ⊢
      rw [ih]
      generalize sumR (gi ws) n = a
      generalize sumR (fun i => gi ws i * gi P i) n = b
      generalize sumR (fun i => gi ws i * gi P i * gi P i) n = c
      generalize gi ws n = w
      generalize gi P n = p
      grind
  rw [e2]
  unfold varAt
  generalize sumTo ws ll.length = A
  generalize dotTo ws (placesL ll q) ll.length = B
  generalize sqTo ws (placesL ll q) ll.length = C
  grind
theorem reach_said {ll : List (List Atom)} {ws : List Int} (h : weighedErr ll ws = 0) :
    sumR (fun i => gi ws i * apartV (scaleL (gl ll i) (sumTo ws ll.length)) (meansL ll ws) 2) ll.length * leastDen ll ws = leastNum ll ws * sumTo ws ll.length * sumTo ws ll.length := by
  rw [reach_sum h]
  unfold leastDen leastNum
  rw [if_pos h, if_pos h]
  obtain ⟨h1, h2⟩ := gcd_dvd' (leastTo ll ws (unitsN ll)) (sumTo ws ll.length)
  generalize (Int.gcd (leastTo ll ws (unitsN ll)) (sumTo ws ll.length) : Int) = g at *
  generalize ratN (leastTo ll ws (unitsN ll)) (sumTo ws ll.length) = N at *
  generalize ratD (leastTo ll ws (unitsN ll)) (sumTo ws ll.length) = R at *
  rw [← h1]
  generalize sumTo ws ll.length = A at *
  subst h2
  grind
end Go.Proofs.Ytgnjaapjaglleaa
