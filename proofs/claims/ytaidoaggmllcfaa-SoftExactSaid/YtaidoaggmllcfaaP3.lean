/- The cross ratio of the exact rows is that of the kernel. -/
import Derived.Test.YtaidoaggmllcfaaT28
namespace Go.Proofs.Ytaidoaggmllcfaa

theorem dvd_cop {a n b : Int} (h : a ∣ n * b) (hc : Int.gcd n a = 1) : a ∣ b := by
  rw [← Int.natAbs_dvd_natAbs] at h ⊢
  rw [Int.natAbs_mul, Nat.mul_comm] at h
  exact Nat.Coprime.dvd_of_dvd_mul_right (by unfold Nat.Coprime; rw [Nat.gcd_comm]; exact hc) h
theorem rat_parts {n d : Int} (hd : 1 ≤ d) : ∃ g, 1 ≤ g ∧ ratN n d * g = n ∧ ratD n d * g = d ∧ 1 ≤ ratD n d ∧ Int.gcd (ratN n d) (ratD n d) = 1 := by
  have hg := gcdI_pos (n := n) hd
  have e1 : ratN n d * gcdI n d = n := Int.ediv_mul_cancel (Int.gcd_dvd_left ..)
  have e2 : ratD n d * gcdI n d = d := Int.ediv_mul_cancel (Int.gcd_dvd_right ..)
  refine ⟨gcdI n d, hg, e1, e2, ?_, ?_⟩
  · by_cases h : 1 ≤ ratD n d
    · exact h
    · have := Int.mul_nonpos_of_nonpos_of_nonneg (show ratD n d ≤ 0 by omega) (show 0 ≤ gcdI n d by omega)
      omega
  · have h3 : Int.gcd (ratN n d * gcdI n d) (ratD n d * gcdI n d) = Int.gcd (ratN n d) (ratD n d) * (gcdI n d).natAbs := Int.gcd_mul_right ..
    rw [e1, e2] at h3
    have h4 : Int.gcd n d = (gcdI n d).natAbs := by unfold gcdI; omega
    rw [← h4] at h3
    have h5 : 0 < Int.gcd n d := by unfold gcdI at hg; omega
    exact (Nat.eq_of_mul_eq_mul_right h5 (by rw [Nat.one_mul]; exact h3)).symm
theorem rat_canon {n1 d1 n2 d2 : Int} (h1 : 1 ≤ d1) (h2 : 1 ≤ d2) (h : n1 * d2 = n2 * d1) : ratN n1 d1 = ratN n2 d2 ∧ ratD n1 d1 = ratD n2 d2 := by
  obtain ⟨g1, p1, a1, b1, c1, e1⟩ := rat_parts (n := n1) h1
  obtain ⟨g2, p2, a2, b2, c2, e2⟩ := rat_parts (n := n2) h2
  generalize ratN n1 d1 = x1 at *
  generalize ratD n1 d1 = y1 at *
  generalize ratN n2 d2 = x2 at *
  generalize ratD n2 d2 = y2 at *
  subst a1 b1 a2 b2
  have hx : x1 * y2 = x2 * y1 := by
    have k : (x1 * y2) * (g1 * g2) = (x2 * y1) * (g1 * g2) := by grind
    exact Int.eq_of_mul_eq_mul_right (by have := Int.mul_pos (show 0 < g1 by omega) (show 0 < g2 by omega); omega) k
  have u1 : y1 ∣ y2 := dvd_cop ⟨x2, by rw [hx, Int.mul_comm]⟩ e1
  have u2 : y2 ∣ y1 := dvd_cop ⟨x1, by rw [← hx, Int.mul_comm]⟩ e2
  have v1 := Int.le_of_dvd (by omega) u1
  have v2 := Int.le_of_dvd (by omega) u2
  have hy : y1 = y2 := by omega
  subst hy
  exact ⟨Int.eq_of_mul_eq_mul_right (by omega) hx, rfl⟩

theorem cross_canon {xa xb xc xd A B R S : Int} (hR : 1 ≤ R) (hS : 1 ≤ S) (hA : 0 ≤ A) (hB : 0 ≤ B) (hxc : 1 ≤ xc) (hxd : 1 ≤ xd) (hc : ratN (xc * A) R ≠ 0) (hd : ratN (xd * B) S ≠ 0) :
    let up := ratN (xa * A) R * ratN (xb * B) S * ratD (xc * A) R * ratD (xd * B) S
    let dn := ratD (xa * A) R * ratD (xb * B) S * ratN (xc * A) R * ratN (xd * B) S
    ratN up dn = ratN (xa * xb) (xc * xd) ∧ ratD up dn = ratD (xa * xb) (xc * xd) := by
  intro up dn
  obtain ⟨ga, p1, a1, b1, c1, _⟩ := rat_parts (n := xa * A) hR
  obtain ⟨gb, p2, a2, b2, c2, _⟩ := rat_parts (n := xb * B) hS
  obtain ⟨gc, p3, a3, b3, c3, _⟩ := rat_parts (n := xc * A) hR
  obtain ⟨gd, p4, a4, b4, c4, _⟩ := rat_parts (n := xd * B) hS
  have nc : 1 ≤ ratN (xc * A) R := by
    have h0 := Int.mul_nonneg (show 0 ≤ xc by omega) hA
    rw [← a3] at h0
    rcases Int.lt_trichotomy (ratN (xc * A) R) 0 with h | h | h
    · have := Int.mul_neg_of_neg_of_pos h (show 0 < gc by omega); omega
    · exact absurd h hc
    · omega
  have nd : 1 ≤ ratN (xd * B) S := by
    have h0 := Int.mul_nonneg (show 0 ≤ xd by omega) hB
    rw [← a4] at h0
    rcases Int.lt_trichotomy (ratN (xd * B) S) 0 with h | h | h
    · have := Int.mul_neg_of_neg_of_pos h (show 0 < gd by omega); omega
    · exact absurd h hd
    · omega
  refine rat_canon (mul1 (mul1 (mul1 c1 c2) nc) nd) (mul1 hxc hxd) ?_
  show ratN (xa * A) R * ratN (xb * B) S * ratD (xc * A) R * ratD (xd * B) S * (xc * xd) = xa * xb * (ratD (xa * A) R * ratD (xb * B) S * ratN (xc * A) R * ratN (xd * B) S)
  generalize ratN (xa * A) R = an at *
  generalize ratD (xa * A) R = ad at *
  generalize ratN (xb * B) S = bn at *
  generalize ratD (xb * B) S = bd at *
  generalize ratN (xc * A) R = cn at *
  generalize ratD (xc * A) R = cd at *
  generalize ratN (xd * B) S = dn' at *
  generalize ratD (xd * B) S = dd at *
  have hg : 0 < ga * gb * (gc * gd) := Int.mul_pos (Int.mul_pos (by omega) (by omega)) (Int.mul_pos (by omega) (by omega))
  refine Int.eq_of_mul_eq_mul_right (a := ga * gb * (gc * gd)) (by omega) ?_
  have l : an * bn * cd * dd * (xc * xd) * (ga * gb * (gc * gd)) = (an * ga) * (bn * gb) * (cd * gc) * (dd * gd) * (xc * xd) := by grind
  have r : xa * xb * (ad * bd * cn * dn') * (ga * gb * (gc * gd)) = xa * xb * ((ad * ga) * (bd * gb) * (cn * gc) * (dn' * gd)) := by grind
  rw [l, r, a1, a2, b3, b4, b1, b2, a3, a4]
  grind
theorem rg_ex {t : Tbl} {l : List Int} {i j : Nat} (hi : i < t.length) (hj : j < (row t 0).length) : rg (exT t l) i j = exQ t l i j := by
  unfold rg rrow exT exTo
  simp [hi, hj]
theorem exact_law {t : Tbl} {l : List Int} {i j m n : Int} (h1 : rowsOk t l = true) (h2 : kcErr t i j m n = 0) (h3 : crErr (exT t l) i j m n = 0) : crV (exT t l) i j m n = kcV t i j m n := by
  simp only [rowsOk, Bool.and_eq_true, decide_eq_true_eq] at h1
  obtain ⟨k1, k2, k3⟩ := h1
  have H0 := tabB_ok k1
  have hlb := (massB_ok k2).2.2
  have hp : placedB t.length (row t 0).length i j m n = true := by
    cases e : placedB t.length (row t 0).length i j m n with
    | true => rfl
    | false => unfold kcErr at h2; rw [k1, e] at h2; simp at h2
  have hz : ¬ (tg t i.toNat n.toNat = 0 ∨ tg t m.toNat j.toNat = 0) := by
    intro e; unfold kcErr at h2; rw [k1, hp] at h2; simp [e] at h2
  have hz2 : ¬ ((rg (exT t l) i.toNat n.toNat).num = 0 ∨ (rg (exT t l) m.toNat j.toNat).num = 0) := by
    intro e
    unfold crErr at h3
    rw [if_pos e] at h3
    split at h3
    · split at h3 <;> omega
    · omega
  obtain ⟨p1, p2, p3, p4⟩ := placed_in hp
  unfold crV kcV crR kcR
  rw [if_pos h3, if_pos h3, if_pos h2, if_pos h2]
  have hi : i.toNat < t.length := by omega
  have hm : m.toNat < t.length := by omega
  have hj : j.toNat < (row t 0).length := by omega
  have hn : n.toNat < (row t 0).length := by omega
  rw [rg_ex hi hj, rg_ex hm hn, rg_ex hi hn, rg_ex hm hj] at *
  have bc := H0.bd _ _ hi hn
  have bd := H0.bd _ _ hm hj
  have hs1 := sm_bd5 H0 hi
  have hs2 := sm_bd5 H0 hm
  have hx1 := mx1_bd hs1
  have hx2 := mx1_bd hs2
  have ha1 := hlb i.toNat (by omega)
  have ha2 := hlb m.toNat (by omega)
  have hc := cross_canon (xa := tg t i.toNat j.toNat) (xb := tg t m.toNat n.toNat) (xc := tg t i.toNat n.toNat) (xd := tg t m.toNat j.toNat) hx1.1 hx2.1 ha1.1 ha2.1 (by omega) (by omega) (fun e => hz2 (.inl e)) (fun e => hz2 (.inr e))
  simp only at hc
  unfold upX dnX exQ
  simp only
  rw [hc.1, hc.2]
end Go.Proofs.Ytaidoaggmllcfaa
