/- No sum of squares is below the least one. -/
import Derived.Test.YtgnjaapjaglleaaP6
namespace Go.Proofs.Ytgnjaapjaglleaa

theorem apartTo_sum (u v : List Int) (k : Int) : ∀ n, apartTo u v k n = sumR (fun i => priceV (gi u i) (gi v i) k) n
  | 0 => rfl
  | n + 1 => by rw [apartTo_succ, apartTo_sum u v k n]; rfl
theorem priceV_two (a b : Int) : priceV a b 2 = (b - a) * (b - a) := by
  unfold priceV distI; rw [if_pos rfl]; split
  · rfl
  · have e : a - b = -(b - a) := by omega
    rw [e, Int.neg_mul_neg]
theorem sumR_swap (f : Nat → Nat → Int) (n : Nat) : ∀ m, sumR (fun i => sumR (fun k => f i k) n) m = sumR (fun k => sumR (fun i => f i k) m) n
  | 0 => by
    have : ∀ n, sumR (fun _ => (0 : Int)) n = 0 := fun n => by induction n with | zero => rfl | succ n ih => simp [sumR, ih]
    simp only [sumR]; rw [this]
  | m + 1 => by
    simp only [sumR]
    rw [sumR_swap f n m, ← sumR_add]
theorem quad_low (ws P : List Int) (p : Int) (n : Nat) : sumTo ws n * sqTo ws P n - dotTo ws P n * dotTo ws P n ≤ sumTo ws n * sumR (fun i => gi ws i * ((p - gi P i) * (p - gi P i))) n := by
  rw [quad_eq]
  have h := sq_nonneg' (sumTo ws n * p - dotTo ws P n)
  generalize sumTo ws n = a at *
  generalize dotTo ws P n = b at *
  generalize sqTo ws P n = c at *
  have e : a * (a * (p * p) - 2 * p * b + c) - (a * c - b * b) = (a * p - b) * (a * p - b) := by grind
  omega
/-- the sum of a list for loads, unit by unit -/
theorem sumAp_units {ll : List (List Atom)} {ws : List Int} {m : List Atom} (k : Int) (h : OkLoads ll) :
    sumAp ll ws m k ll.length = sumR (fun q => sumR (fun i => gi ws i * priceV (gi (placesL ll q) i) (gi (unitsL m) q) k) ll.length) (unitsN ll) := by
  unfold sumAp
  rw [← sumR_swap]
  refine sumR_congr (n := ll.length) (fun i hi => ?_) _ (Nat.le_refl _)
  rw [gl_at hi, sumR_mul]
  congr 1
  unfold apartL
  rw [apartTo_sum]
  have h1 := h.units hi
  have h2 := (unitsN_bd h).1
  have h0 := h.pos
  rw [List.getElem?_eq_getElem (by omega), Option.getD_some] at h2
  have e : (unitsL ll[i]).length = unitsN ll := by omega
  rw [e]
  refine sumR_congr (n := unitsN ll) (fun q _ => ?_) _ (Nat.le_refl _)
  rw [gi_at, gi_at, gi_at, placesL_at hi]
theorem least_low {ll : List (List Atom)} {ws : List Int} (m : List Atom) (h : OkLoads ll) :
    leastTo ll ws (unitsN ll) ≤ sumTo ws ll.length * sumAp ll ws m 2 ll.length := by
  rw [sumAp_units 2 h, ← sumR_mul]
  unfold leastTo
  refine sumR_le (n := unitsN ll) (fun q _ => ?_) _ (Nat.le_refl _)
  have h1 := quad_low ws (placesL ll q) (gi (unitsL m) q) ll.length
  unfold varAt
  refine Int.le_trans h1 (Int.le_of_eq ?_)
  congr 1
  refine sumR_congr (n := ll.length) (fun i _ => ?_) _ (Nat.le_refl _)
  rw [priceV_two]
theorem sumErr_ok {ll : List (List Atom)} {ws : List Int} {m : List Atom} {k : Int} (h : sumErr ll ws m k = 0) : loadsErr ll = 0 ∧ valAtoms m = 0 ∧ weightsErr ll ws = 0 ∧ totalL m = totalL (gl ll 0) ∧ kindB k = true := by
  unfold sumErr at h
  by_cases h1 : loadsErr ll = 0
  · rw [if_neg (by simpa using h1)] at h
    by_cases h2 : valAtoms m = 0
    · rw [if_neg (by simpa using h2)] at h
      by_cases h3 : weightsErr ll ws = 0
      · rw [if_neg (by simpa using h3)] at h
        by_cases h4 : totalL m = totalL (gl ll 0)
        · rw [if_neg (by simpa using h4)] at h
          by_cases h5 : kindB k = true
          · exact ⟨h1, h2, h3, h4, h5⟩
          · rw [if_neg h5] at h; simp at h
        · rw [if_pos h4] at h; simp at h
      · rw [if_pos h3] at h; exact absurd h h3
    · rw [if_pos h2] at h; exact absurd h h2
  · rw [if_pos h1] at h; exact absurd h h1
theorem gcd_dvd' (n d : Int) : ratN n d * (Int.gcd n d : Int) = n ∧ ratD n d * (Int.gcd n d : Int) = d := by
  unfold ratN ratD
  exact ⟨Int.tdiv_mul_cancel (Int.gcd_dvd_left _ _), Int.tdiv_mul_cancel (Int.gcd_dvd_right _ _)⟩
theorem ratD_bd {n d D : Int} (hd : 1 ≤ d ∧ d ≤ D) : 1 ≤ ratD n d ∧ ratD n d ≤ D := by
  obtain ⟨-, h⟩ := gcd_dvd' n d
  have hg := gcd_pos (n := n) (d := d) (by omega)
  generalize (Int.gcd n d : Int) = g at *
  generalize ratD n d = r at *
  have h1 : 0 < r := by
    by_cases h2 : 0 < r
    · exact h2
    · have := Int.mul_nonpos_of_nonpos_of_nonneg (show r ≤ 0 by omega) (show 0 ≤ g by omega); omega
  have h2 : r * 1 ≤ r * g := Int.mul_le_mul_of_nonneg_left hg (by omega)
  omega
theorem rat_le {n d a : Int} (hd : d ≠ 0) (h : n ≤ d * a) : ratN n d ≤ a * ratD n d := by
  obtain ⟨h1, h2⟩ := gcd_dvd' n d
  have hg := gcd_pos (n := n) (d := d) hd
  generalize (Int.gcd n d : Int) = g at *
  generalize ratD n d = r at *
  generalize ratN n d = s at *
  have e : d * a = (a * r) * g := by rw [← h2]; grind
  rw [← h1, e] at h
  exact Int.le_of_mul_le_mul_right h (by omega)
theorem sums_said {ll : List (List Atom)} {ws : List Int} {m : List Atom} (h : sumErr ll ws m 2 = 0) :
    weighedErr ll ws = 0 ∧ (1 ≤ leastDen ll ws ∧ leastDen ll ws ≤ 45) ∧ leastNum ll ws ≤ sumV ll ws m 2 * leastDen ll ws := by
  obtain ⟨h1, h2, h3, h4, h5⟩ := sumErr_ok h
  have hw : weighedErr ll ws = 0 := by unfold weighedErr; rw [h1, h3]; simp
  obtain ⟨hok, hws, hwb⟩ := weighed_ok hw
  have hs := sumR_bd (f := gi ws) (A := 1) (B := 9) hwb ll.length (Nat.le_refl _)
  rw [show sumR (gi ws) ll.length = sumTo ws ll.length from rfl] at hs
  have h5 := hok.five
  have hp := hok.pos
  refine ⟨hw, ?_, ?_⟩
  · unfold leastDen; rw [if_pos hw]; exact ratD_bd (by omega)
  · unfold leastDen leastNum sumV; rw [if_pos hw, if_pos hw, if_pos h]
    exact rat_le (by omega) (least_low m hok)
theorem sumV_bd {ll : List (List Atom)} {ws : List Int} {m : List Atom} {k : Int} : 0 ≤ sumV ll ws m k ∧ sumV ll ws m k ≤ 25920000000000000 := by
  unfold sumV
  split
  · rename_i h
    obtain ⟨h1, h2, h3, h4, h5⟩ := sumErr_ok h
    have hok := loadsErr_ok h1
    obtain ⟨e1, e2⟩ := weightsErr_ok h3
    exact sumAp_bd hok (fun j hj => pair_load hok h2 h4 hj) (fun j hj => e2 j (by omega)) (Nat.le_refl _)
  · omega
def longB (ll : List (List Atom)) : Bool := ll.any (fun l => decide (100 < l.length)) || decide (40 < ll.length)
theorem longB_no {ll : List (List Atom)} (h : longB ll = false) : ll.length ≤ 40 ∧ ∀ j, (hj : j < ll.length) → ll[j].length ≤ 100 := by
  unfold longB at h
  rw [Bool.or_eq_false_iff] at h
  refine ⟨by simpa using h.2, fun j hj => ?_⟩
  have := List.any_eq_false.1 h.1 _ (List.getElem_mem hj)
  simpa using this
end Go.Proofs.Ytgnjaapjaglleaa
