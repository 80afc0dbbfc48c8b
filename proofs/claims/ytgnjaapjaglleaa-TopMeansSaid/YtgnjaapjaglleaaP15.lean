/- The sum of the distances to a number is least between the two middle ones. -/
import Derived.Test.YtgnjaapjaglleaaP14
namespace Go.Proofs.Ytgnjaapjaglleaa

def farS (P : List Int) (t : Int) : Int := (P.map fun p => distI p t).sum
def cntS (P : List Int) (s : Int) : Nat := P.countP fun x => decide (x ≤ s)
theorem distI_le {x s t : Int} (h : s ≤ t) : distI x t - distI x s ≤ t - s ∧ -(t - s) ≤ distI x t - distI x s := by unfold distI; split <;> split <;> omega
theorem far_low (P : List Int) {s t : Int} (h : s ≤ t) : (t - s) * (2 * (cntS P s : Int) - (P.length : Int)) ≤ farS P t - farS P s := by
  induction P with
  | nil => simp [farS, cntS]
  | cons x P ih =>
    have hd := distI_le (x := x) h
    have e1 : farS (x :: P) t = distI x t + farS P t := by simp [farS]
    have e2 : farS (x :: P) s = distI x s + farS P s := by simp [farS]
    have el : ((x :: P).length : Int) = (P.length : Int) + 1 := by simp
    by_cases hx : x ≤ s
    · have ec : (cntS (x :: P) s : Int) = (cntS P s : Int) + 1 := by simp [cntS, hx]
      have hxd : distI x t - distI x s = t - s := by unfold distI; rw [if_pos hx, if_pos (by omega)]; omega
      have e : (t - s) * (2 * ((cntS P s : Int) + 1) - ((P.length : Int) + 1)) = (t - s) * (2 * (cntS P s : Int) - (P.length : Int)) + (t - s) := by grind
      rw [e1, e2, el, ec, e]; omega
    · have ec : (cntS (x :: P) s : Int) = (cntS P s : Int) := by simp [cntS, hx]
      have e : (t - s) * (2 * (cntS P s : Int) - ((P.length : Int) + 1)) = (t - s) * (2 * (cntS P s : Int) - (P.length : Int)) - (t - s) := by grind
      rw [e1, e2, el, ec, e]; omega
theorem far_up (P : List Int) {s t : Int} (h : s ≤ t) : farS P t - farS P s ≤ (t - s) * (2 * (cntS P (t - 1) : Int) - (P.length : Int)) := by
  induction P with
  | nil => simp [farS, cntS]
  | cons x P ih =>
    have hd := distI_le (x := x) h
    have e1 : farS (x :: P) t = distI x t + farS P t := by simp [farS]
    have e2 : farS (x :: P) s = distI x s + farS P s := by simp [farS]
    have el : ((x :: P).length : Int) = (P.length : Int) + 1 := by simp
    by_cases hx : x ≤ t - 1
    · have ec : (cntS (x :: P) (t - 1) : Int) = (cntS P (t - 1) : Int) + 1 := by simp [cntS, hx]
      have e : (t - s) * (2 * ((cntS P (t - 1) : Int) + 1) - ((P.length : Int) + 1)) = (t - s) * (2 * (cntS P (t - 1) : Int) - (P.length : Int)) + (t - s) := by grind
      rw [e1, e2, el, ec, e]; omega
    · have ec : (cntS (x :: P) (t - 1) : Int) = (cntS P (t - 1) : Int) := by simp [cntS, hx]
      have hxd : distI x t - distI x s = -(t - s) := by unfold distI; split <;> split <;> omega
      have e : (t - s) * (2 * (cntS P (t - 1) : Int) - ((P.length : Int) + 1)) = (t - s) * (2 * (cntS P (t - 1) : Int) - (P.length : Int)) - (t - s) := by grind
      rw [e1, e2, el, ec, e]; omega
theorem cnt_rank {P : List Int} {r : Nat} {t : Int} (hr : r < P.length) : gi (sortI P) r ≤ t ↔ r < cntS P t := by
  have := rank_iff (sortI_pw P) (r := r) (t := t) (by rw [sortI_length]; exact hr)
  rw [this, (sortI_perm P).countP_eq]; rfl
/-- the lower and the upper middle one -/
def midL (P : List Int) : Int := gi (sortI P) ((P.length - 1) / 2)
def midU (P : List Int) : Int := gi (sortI P) (P.length / 2)
theorem mul_pos_le {d c : Int} (hd : 0 ≤ d) (hc : 0 ≤ c) : 0 ≤ d * c := Int.mul_nonneg hd hc
theorem med_low {P : List Int} (h0 : 0 < P.length) {t : Int} (h : t < midL P) : farS P (midL P) < farS P t := by
  have hu := far_up P (s := t) (t := midL P) (by omega)
  have hc : ¬ midL P ≤ midL P - 1 := by omega
  unfold midL at hc
  rw [cnt_rank (by omega)] at hc
  have h2 : 2 * (cntS P (midL P - 1) : Int) - (P.length : Int) ≤ -1 := by unfold midL; omega
  have h3 := Int.mul_le_mul_of_nonneg_left h2 (show 0 ≤ midL P - t by omega)
  omega
theorem med_ge {P : List Int} (h0 : 0 < P.length) {t : Int} (h : midL P ≤ t) : farS P (midL P) ≤ farS P t := by
  have hu := far_low P h
  have hc : midL P ≤ midL P := Int.le_refl _
  have hc2 : (P.length - 1) / 2 < cntS P (midL P) := (cnt_rank (by omega)).1 hc
  have h2 : 0 ≤ 2 * (cntS P (midL P) : Int) - (P.length : Int) := by omega
  have h3 := Int.mul_nonneg (show 0 ≤ t - midL P by omega) h2
  omega
theorem med_eq {P : List Int} (h0 : 0 < P.length) {t : Int} (h : midL P ≤ t) (h2 : t ≤ midU P) : farS P t ≤ farS P (midL P) := by
  have hu := far_up P h
  have hc : ¬ midU P ≤ t - 1 := by omega
  have hc2 : ¬ P.length / 2 < cntS P (t - 1) := fun q => hc ((cnt_rank (by omega)).2 q)
  have h3 : 2 * (cntS P (t - 1) : Int) - (P.length : Int) ≤ 0 := by omega
  have h4 := Int.mul_le_mul_of_nonneg_left h3 (show 0 ≤ t - midL P by omega)
  omega
theorem med_mono {P : List Int} (h0 : 0 < P.length) : midL P ≤ midU P := pw_asc (sortI_pw P) (by omega) (by rw [sortI_length]; omega)
theorem med_gt {P : List Int} (h0 : 0 < P.length) {t : Int} (h : midU P < t) : farS P (midL P) < farS P t := by
  have h1 := med_ge h0 (med_mono h0)
  have hu := far_low P (s := midU P) (t := t) (by omega)
  have hc2 : P.length / 2 < cntS P (midU P) := (cnt_rank (by omega)).1 (Int.le_refl _)
  have h2 : 1 ≤ 2 * (cntS P (midU P) : Int) - (P.length : Int) := by omega
  have h3 := Int.mul_le_mul_of_nonneg_left h2 (show 0 ≤ t - midU P by omega)
  omega
theorem med_said {P : List Int} (h0 : 0 < P.length) (t : Int) : farS P (midL P) ≤ farS P t ∧ (farS P (midL P) = farS P t ↔ midL P ≤ t ∧ t ≤ midU P) := by
  by_cases h1 : t < midL P
  · have := med_low h0 h1
    exact ⟨by omega, fun e => by omega, fun e => by omega⟩
  · by_cases h2 : midU P < t
    · have := med_gt h0 h2
      exact ⟨by omega, fun e => by omega, fun e => by omega⟩
    · have h3 := med_ge h0 (t := t) (by omega)
      have h4 := med_eq h0 (t := t) (by omega) (by omega)
      exact ⟨h3, fun _ => ⟨by omega, by omega⟩, fun _ => by omega⟩
end Go.Proofs.Ytgnjaapjaglleaa
