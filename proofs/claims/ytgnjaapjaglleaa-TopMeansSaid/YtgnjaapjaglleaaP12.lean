/- Every mean lies between the lower and the upper bound: MeanMeans (no program in sight) -/
import Derived.Test.YtgnjaapjaglleaaP11
namespace Go.Proofs.Ytgnjaapjaglleaa

theorem sort_ends {P : List Int} {i : Nat} (hi : i < P.length) : gi (sortI P) 0 ≤ gi P i ∧ gi P i ≤ gi (sortI P) (P.length - 1) := by
  have hm : gi P i ∈ sortI P := (sortI_perm P).symm.subset (gi_mem hi)
  obtain ⟨j, hj, e⟩ := mem_gi hm
  have hl := sortI_length P
  have hp := List.pairwise_iff_getElem.1 (sortI_pw P)
  have hg : ∀ k, (hk : k < (sortI P).length) → gi (sortI P) k = (sortI P)[k] := fun k hk => by simp [gi, hk]
  rw [← e, hg 0 (by omega), hg j hj, hg (P.length - 1) (by omega)]
  refine ⟨?_, ?_⟩
  · by_cases h0 : j = 0
    · subst h0; exact Int.le_refl _
    · exact hp 0 j (by omega) hj (by omega)
  · by_cases h0 : j = P.length - 1
    · subst h0; exact Int.le_refl _
    · exact hp j _ hj (by omega) (by omega)
theorem sumR_mulR (f : Nat → Int) (c : Int) : ∀ n, sumR (fun i => f i * c) n = sumR f n * c
  | 0 => by simp [sumR]
  | n + 1 => by simp only [sumR]; rw [sumR_mulR f c n, Int.add_mul]
theorem leU_of {u v : List Int} (h : ∀ k, k < u.length → gi u k ≤ gi v k) : leU u v = true := by
  unfold leU
  rw [List.all_eq_true]
  intro k hk
  rw [List.mem_range] at hk
  exact decide_eq_true (h k hk)
theorem rank_scale {ll : List (List Atom)} {ws : List Int} (h : weighedErr ll ws = 0) {r : Nat} (hr : r < ll.length) : scaleErr (rankL ll r) (sumTo ws ll.length) = 0 ∧ totalL (scaleL (rankL ll r) (sumTo ws ll.length)) = totalL (meansL ll ws) := by
  obtain ⟨hok, hws, hwb⟩ := weighed_ok h
  have h5 := hok.five
  have hs := sumR_bd (f := gi ws) (A := 1) (B := 9) hwb ll.length (Nat.le_refl _)
  rw [show sumR (gi ws) ll.length = sumTo ws ll.length from rfl] at hs
  have hv := rank_valid hok hr
  have hU := rank_units ll r
  generalize sumTo ws ll.length = A at *
  have hall : (rankL ll r).all (scOk A) = true := by
    rw [List.all_eq_true]
    intro y hy
    have hm : y.p ∈ rankU ll r := by
      rw [← hU]
      have hm := isListB_mem (listErr_ok hv).2 hy
      unfold unitsL
      rw [List.mem_flatMap]
      exact ⟨y, hy, List.mem_replicate.2 ⟨by omega, rfl⟩⟩
    obtain ⟨j, hj, e⟩ := mem_gi hm
    rw [rankU_length] at hj
    rw [gi_rank hj] at e
    have h1 := sort_bd hok hj hr
    rw [e] at h1
    have h2 := mulbd (a := y.p) (b := A) (A := 1000) (B := 45) (by omega) (by omega)
    exact withinB_iff.2 (by omega)
  have hw : withinB A 1 60 = true := withinB_iff.2 (by omega)
  refine ⟨by unfold scaleErr; rw [hv, hw, hall]; simp, ?_⟩
  rw [scale_total, rank_total hok, means_total h]
theorem mm_pair {ll : List (List Atom)} {ws : List Int} (h : weighedErr ll ws = 0) {r : Nat} (hr : r < ll.length) :
    pairErr (scaleL (rankL ll r) (sumTo ws ll.length)) (meansL ll ws) = 0 ∧ pairErr (meansL ll ws) (scaleL (rankL ll r) (sumTo ws ll.length)) = 0 := by
  obtain ⟨h1, h2⟩ := rank_scale h hr
  obtain ⟨a1, a2, a3⟩ := scaleErr_ok h1
  have h3 := scale_valid a1 (by omega) a3
  have h4 := means_valid h
  unfold pairErr
  rw [h3, h4, h2]
  simp
theorem mm_units {ll : List (List Atom)} {ws : List Int} (h : weighedErr ll ws = 0) (k : Nat) :
    gi (sortI (placesL ll k)) 0 * sumTo ws ll.length ≤ dotTo ws (placesL ll k) ll.length ∧ dotTo ws (placesL ll k) ll.length ≤ gi (sortI (placesL ll k)) (ll.length - 1) * sumTo ws ll.length := by
  obtain ⟨hok, hws, hwb⟩ := weighed_ok h
  have hl := placesL_length ll k
  constructor
  · rw [Int.mul_comm, show sumTo ws ll.length = sumR (gi ws) ll.length from rfl, ← sumR_mulR]
    refine sumR_le (n := ll.length) (fun i hi => ?_) _ (Nat.le_refl _)
    have h1 := sort_ends (P := placesL ll k) (i := i) (by omega)
    exact Int.mul_le_mul_of_nonneg_left h1.1 (by have := hwb i hi; omega)
  · rw [Int.mul_comm, show sumTo ws ll.length = sumR (gi ws) ll.length from rfl, ← sumR_mulR]
    refine sumR_le (n := ll.length) (fun i hi => ?_) _ (Nat.le_refl _)
    have h1 := sort_ends (P := placesL ll k) (i := i) (by omega)
    rw [hl] at h1
    exact Int.mul_le_mul_of_nonneg_left h1.2 (by have := hwb i hi; omega)
theorem means_units {ll : List (List Atom)} {ws : List Int} (h : weighedErr ll ws = 0) : unitsL (meansL ll ws) = meansU ll ws := by
  unfold meansL; rw [if_pos h]; exact units_collect _
theorem mm_before {ll : List (List Atom)} {ws : List Int} (h : weighedErr ll ws = 0) :
    beforeB (scaleL (rankL ll 0) (sumTo ws ll.length)) (meansL ll ws) = true ∧ beforeB (meansL ll ws) (scaleL (rankL ll (ll.length - 1)) (sumTo ws ll.length)) = true := by
  obtain ⟨hok, hws, hwb⟩ := weighed_ok h
  have hp := hok.pos
  have p1 := (mm_pair h (r := 0) (by omega)).1
  have p2 := (mm_pair h (r := ll.length - 1) (by omega)).2
  unfold beforeB
  rw [p1, p2, scale_units, scale_units, rank_units, rank_units, means_units h]
  refine ⟨?_, ?_⟩
  · rw [leU_of]; rfl
    intro k hk
    rw [List.length_map, rankU_length] at hk
    rw [gi_map, gi_rank hk, gi_means hk]
    exact (mm_units h k).1
  · rw [leU_of]; rfl
    intro k hk
    rw [meansU_length] at hk
    rw [gi_map, gi_rank hk, gi_means hk]
    exact (mm_units h k).2
end Go.Proofs.Ytgnjaapjaglleaa
