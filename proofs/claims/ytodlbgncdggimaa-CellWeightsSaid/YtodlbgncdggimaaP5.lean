/- Fractions in lowest terms: their bounds; what they are for the opposite signs. -/
import Derived.Test.YtodlbgncdggimaaT31
namespace Go.Proofs.Ytodlbgncdggimaa

theorem sgcd_opp (n d : Int) (hd : d ≠ 0) : sgcd (-n) (-d) = -(sgcd n d) := by
  have hg : Int.gcd (-n) (-d) = Int.gcd n d := by rw [Int.gcd, Int.gcd, Int.natAbs_neg, Int.natAbs_neg]
  unfold sgcd
  rw [hg]
  by_cases h : d < 0
  · rw [if_neg (by omega), if_pos h]; omega
  · rw [if_pos (by omega), if_neg h]
theorem ratN_opp (n d : Int) (hd : d ≠ 0) : ratN (-n) (-d) = ratN n d := by
  unfold ratN
  rw [sgcd_opp n d hd, Int.neg_tdiv, Int.tdiv_neg, Int.neg_neg]
theorem ratD_opp (n d : Int) (hd : d ≠ 0) : ratD (-n) (-d) = ratD n d := by
  unfold ratD
  rw [sgcd_opp n d hd, Int.neg_tdiv, Int.tdiv_neg, Int.neg_neg]

theorem ratN_bd {n d M : Int} (h : -M ≤ n ∧ n ≤ M) : -M ≤ ratN n d ∧ ratN n d ≤ M := tdiv_bd h
theorem ratD_pos {n d : Int} (hd : 0 < d) : ∃ g : Int, 0 < g ∧ sgcd n d = g ∧ ratD n d * g = d ∧ ratN n d * g = n ∧ 0 < ratD n d ∧ ratD n d ≤ d := by
  have hp := gcd_pos (n := n) (d := d) (by omega)
  have hs : sgcd n d = (Int.gcd n d : Int) := by unfold sgcd; rw [if_neg (by omega)]
  have h1 : d.tdiv (Int.gcd n d : Int) * (Int.gcd n d : Int) = d := Int.tdiv_mul_cancel (Int.gcd_dvd_right ..)
  have h2 : n.tdiv (Int.gcd n d : Int) * (Int.gcd n d : Int) = n := Int.tdiv_mul_cancel (Int.gcd_dvd_left ..)
  have h3 : ratD n d = d.tdiv (Int.gcd n d : Int) := by unfold ratD; rw [hs]
  have h4 : ratN n d = n.tdiv (Int.gcd n d : Int) := by unfold ratN; rw [hs]
  refine ⟨(Int.gcd n d : Int), by omega, hs, by rw [h3]; exact h1, by rw [h4]; exact h2, ?_, ?_⟩
  · rw [h3]
    generalize (Int.gcd n d : Int) = g at *
    generalize d.tdiv g = q at *
    rcases Int.lt_or_le 0 q with h | h
    · exact h
    · have := Int.mul_le_mul_of_nonneg_right h (show 0 ≤ g by omega)
      omega
  · have := tdiv_bd (a := d) (b := sgcd n d) (M := d) (by omega)
    exact this.2
end Go.Proofs.Ytodlbgncdggimaa
