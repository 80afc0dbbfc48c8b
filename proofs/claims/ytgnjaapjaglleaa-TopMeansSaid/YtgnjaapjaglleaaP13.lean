/- A list between two: MeanBetweens (no program in sight) -/
import Derived.Test.YtgnjaapjaglleaaP12
namespace Go.Proofs.Ytgnjaapjaglleaa

def betAt (l m : List Atom) (num den : Int) (k : Nat) : Int := (den - num) * gi (unitsL l) k + num * gi (unitsL m) k
def betU (l m : List Atom) (num den : Int) : List Int := (List.range (unitsL l).length).map (betAt l m num den)
def nearB (x : Int) : Bool := withinB x (-60000) 60000
def shareB (num den : Int) : Bool := withinB den 1 60 && withinB num 0 den
def betErr (l m : List Atom) (num den : Int) : Int :=
  if pairErr l m ≠ 0 then pairErr l m else if shareB num den = true then (if (betU l m num den).all nearB = true ∧ (collectL (betU l m num den)).length ≤ 40 then 0 else 3) else 1
def betL (l m : List Atom) (num den : Int) : List Atom := if betErr l m num den = 0 then collectL (betU l m num den) else []
theorem betU_length (l m : List Atom) (num den : Int) : (betU l m num den).length = (unitsL l).length := by simp [betU]
theorem gi_bet {l m : List Atom} {num den : Int} {k : Nat} (hk : k < (unitsL l).length) : gi (betU l m num den) k = betAt l m num den k := by simp [gi, betU, hk]
theorem shareB_ok {num den : Int} (h : shareB num den = true) : 1 ≤ den ∧ den ≤ 60 ∧ 0 ≤ num ∧ num ≤ den := by
  unfold shareB at h
  rw [Bool.and_eq_true] at h
  have h1 := withinB_iff.1 h.1
  have h2 := withinB_iff.1 h.2
  omega
theorem pair_units {l m : List Atom} (h : pairErr l m = 0) : (unitsL l).length = (unitsL m).length := by
  obtain ⟨g1, g2, g3⟩ := pairErr_ok h
  exact units_eq (fine_atoms g1) (fine_atoms g2) g3
theorem asc_of {l : List Atom} (h : valAtoms l = 0) : Asc (unitsL l) := units_asc (listErr_ok h).2
theorem bet_steps {l m : List Atom} (h : pairErr l m = 0) {num den : Int} (hs : 1 ≤ den ∧ den ≤ 60 ∧ 0 ≤ num ∧ num ≤ den) {i j : Nat} (hij : i ≤ j) (hj : j < (unitsL l).length) :
    betAt l m num den i ≤ betAt l m num den j ∧ (betAt l m num den i = betAt l m num den j → (num < den → gi (unitsL l) i = gi (unitsL l) j) ∧ (num = den → gi (unitsL m) i = gi (unitsL m) j)) := by
  have hl := pair_units h
  obtain ⟨g1, g2, g3⟩ := pairErr_ok h
  have h1 := (asc_of g1).le (i := i) (j - i) (by omega)
  have h2 := (asc_of g2).le (i := i) (j - i) (by omega)
  rw [show i + (j - i) = j by omega] at h1 h2
  unfold betAt
  generalize gi (unitsL l) i = a at *
  generalize gi (unitsL l) j = a' at *
  generalize gi (unitsL m) i = b at *
  generalize gi (unitsL m) j = b' at *
  have m1 : (den - num) * a ≤ (den - num) * a' := Int.mul_le_mul_of_nonneg_left h1 (by omega)
  have m2 : num * b ≤ num * b' := Int.mul_le_mul_of_nonneg_left h2 (by omega)
  refine ⟨by omega, fun e => ⟨fun hlt => ?_, fun he => ?_⟩⟩
  · have e1 : (den - num) * a = (den - num) * a' := by omega
    exact Int.eq_of_mul_eq_mul_left (by omega) e1
  · have e1 : num * b = num * b' := by omega
    exact Int.eq_of_mul_eq_mul_left (by omega) e1
theorem bet_asc {l m : List Atom} (h : pairErr l m = 0) {num den : Int} (hs : 1 ≤ den ∧ den ≤ 60 ∧ 0 ≤ num ∧ num ≤ den) : Asc (betU l m num den) := fun j hj => by
  rw [betU_length] at hj
  rw [gi_bet (by omega), gi_bet hj]
  exact (bet_steps h hs (by omega) hj).1
theorem count_units {L : List Atom} {y : Atom} (hy : y ∈ L) : y.m.toNat ≤ (unitsL L).countP (fun x => decide (x = y.p)) := by
  induction L with
  | nil => simp at hy
  | cons x L ih =>
    have e : unitsL (x :: L) = List.replicate x.m.toNat x.p ++ unitsL L := by simp [unitsL]
    rw [e, List.countP_append]
    rcases List.mem_cons.1 hy with rfl | hy
    · have : (List.replicate y.m.toNat y.p).countP (fun x => decide (x = y.p)) = y.m.toNat := by
        rw [List.countP_eq_length.2]
        · simp
        · intro a ha; simp [List.eq_of_mem_replicate ha]
      omega
    · have := ih hy; omega
theorem count_list {L : List Atom} (hp : L.Pairwise (fun a b => a.p < b.p)) (hm : ∀ y, y ∈ L → y.m ≤ 1000) (p : Int) : (unitsL L).countP (fun x => decide (x = p)) ≤ 1000 := by
  induction L with
  | nil => simp [unitsL]
  | cons x L ih =>
    have e : unitsL (x :: L) = List.replicate x.m.toNat x.p ++ unitsL L := by simp [unitsL]
    obtain ⟨h1, h2⟩ := List.pairwise_cons.1 hp
    have ih := ih h2 (fun y hy => hm y (List.mem_cons_of_mem _ hy))
    have hx := hm x List.mem_cons_self
    have hl := List.countP_le_length (p := fun z => decide (z = p)) (l := List.replicate x.m.toNat x.p)
    rw [List.length_replicate] at hl
    rw [e, List.countP_append]
    by_cases hxp : x.p = p
    · have : (unitsL L).countP (fun z => decide (z = p)) = 0 := by
        rw [List.countP_eq_zero]
        intro z hz
        unfold unitsL at hz
        obtain ⟨y, hy, hz⟩ := List.mem_flatMap.1 hz
        have := List.eq_of_mem_replicate hz
        have := h1 y hy
        simp; omega
      omega
    · have : (List.replicate x.m.toNat x.p).countP (fun z => decide (z = p)) = 0 := by
        rw [List.countP_eq_zero]
        intro z hz
        have := List.eq_of_mem_replicate hz
        simp; omega
      omega
theorem range_gi (L : List Int) : L = (List.range L.length).map (gi L) := list_eq (by simp) fun j hj => by simp [gi, hj]
theorem bet_mass {l m : List Atom} (h : pairErr l m = 0) {num den : Int} (hs : 1 ≤ den ∧ den ≤ 60 ∧ 0 ≤ num ∧ num ≤ den) {y : Atom} (hy : y ∈ collectL (betU l m num den)) : y.m ≤ 1000 := by
  have hl := pair_units h
  obtain ⟨g1, g2, g3⟩ := pairErr_ok h
  have h1 := count_units hy
  rw [units_collect] at h1
  have h2 : (betU l m num den).countP (fun x => decide (x = y.p)) ≤ 1000 := by
    obtain ⟨k0, hk0, e0⟩ := collect_place hy
    rw [betU_length] at hk0
    rw [gi_bet hk0] at e0
    have hk : ∀ k, k < (unitsL l).length → betAt l m num den k = y.p → (num < den → gi (unitsL l) k = gi (unitsL l) k0) ∧ (num = den → gi (unitsL m) k = gi (unitsL m) k0) := fun k hk e => by
      rcases Nat.le_total k k0 with hle | hle
      · have := (bet_steps h hs hle hk0).2 (by omega)
        exact this
      · have := (bet_steps h hs hle hk).2 (by omega)
        exact ⟨fun q => (this.1 q).symm, fun q => (this.2 q).symm⟩
    by_cases hlt : num < den
    · obtain ⟨l1, l2⟩ := listErr_ok g1
      have hc := count_list (isListB_pw l2) (fun y hy => (isListB_mem l2 hy).2.2) (gi (unitsL l) k0)
      refine Nat.le_trans ?_ hc
      rw [show (unitsL l).countP (fun x => decide (x = gi (unitsL l) k0)) = ((List.range (unitsL l).length).map (gi (unitsL l))).countP (fun x => decide (x = gi (unitsL l) k0)) by rw [← range_gi]]
      unfold betU
      rw [List.countP_map, List.countP_map]
      refine List.countP_mono_left fun k hkm hd => ?_
      rw [List.mem_range] at hkm
      simp only [Function.comp, decide_eq_true_eq] at hd ⊢
      exact (hk k hkm hd).1 hlt
    · obtain ⟨l1, l2⟩ := listErr_ok g2
      have hc := count_list (isListB_pw l2) (fun y hy => (isListB_mem l2 hy).2.2) (gi (unitsL m) k0)
      refine Nat.le_trans ?_ hc
      rw [show (unitsL m).countP (fun x => decide (x = gi (unitsL m) k0)) = ((List.range (unitsL m).length).map (gi (unitsL m))).countP (fun x => decide (x = gi (unitsL m) k0)) by rw [← range_gi]]
      unfold betU
      rw [List.countP_map, List.countP_map, hl]
      refine List.countP_mono_left fun k hkm hd => ?_
      rw [List.mem_range] at hkm
      simp only [Function.comp, decide_eq_true_eq] at hd ⊢
      exact (hk k (by omega) hd).2 (by omega)
  omega
theorem bet_yes {l m : List Atom} (h : pairErr l m = 0) {num den : Int} (hs : shareB num den = true) (h1 : (betU l m num den).all nearB = true) (h2 : (collectL (betU l m num den)).length ≤ 40) : valAtoms (collectL (betU l m num den)) = 0 := by
  refine collect_valid (bet_asc h (shareB_ok hs)) (fun j hj => ?_) (fun y hy => bet_mass h (shareB_ok hs) hy) h2
  rw [List.all_eq_true] at h1
  have := withinB_iff.1 (h1 _ (gi_mem hj))
  omega
theorem bet_no {l m : List Atom} {num den : Int} (h : ¬ ((betU l m num den).all nearB = true ∧ (collectL (betU l m num den)).length ≤ 40)) : valAtoms (collectL (betU l m num den)) ≠ 0 := fun h0 => by
  obtain ⟨h1, h2⟩ := listErr_ok h0
  refine h ⟨?_, h1⟩
  rw [List.all_eq_true]
  intro x hx
  have hU := units_collect (betU l m num den)
  rw [← hU] at hx
  unfold unitsL at hx
  obtain ⟨y, hy, hz⟩ := List.mem_flatMap.1 hx
  have := List.eq_of_mem_replicate hz
  have := (isListB_mem h2 hy).1
  exact withinB_iff.2 (by omega)
theorem betErr_ok {l m : List Atom} {num den : Int} (h : betErr l m num den = 0) : pairErr l m = 0 ∧ shareB num den = true ∧ (betU l m num den).all nearB = true ∧ (collectL (betU l m num den)).length ≤ 40 := by
  unfold betErr at h
  by_cases h1 : pairErr l m = 0
  · rw [if_neg (by simpa using h1)] at h
    by_cases h2 : shareB num den = true
    · rw [if_pos h2] at h
      by_cases h3 : (betU l m num den).all nearB = true ∧ (collectL (betU l m num den)).length ≤ 40
      · exact ⟨h1, h2, h3.1, h3.2⟩
      · rw [if_neg h3] at h; simp at h
    · rw [if_neg h2] at h; simp at h
  · rw [if_pos h1] at h; exact absurd h h1
theorem price_mul (a b c : Int) (hc : 0 ≤ c) {x y : Int} (h : x - y = c * (a - b)) {k : Int} : priceV x y k = (if k = 2 then c * c else c) * priceV a b k := by
  have hd : distI x y = c * distI a b := by
    have e1 : c * (a - b) = c * a - c * b := Int.mul_sub _ _ _
    unfold distI
    by_cases hab : a ≤ b
    · have := Int.mul_le_mul_of_nonneg_left hab hc
      by_cases hxy : x ≤ y
      · rw [if_pos hxy, if_pos hab, Int.mul_sub]; omega
      · rw [if_neg hxy, if_pos hab, Int.mul_sub]; omega
    · have := Int.mul_le_mul_of_nonneg_left (show b ≤ a by omega) hc
      by_cases hxy : x ≤ y
      · rw [if_pos hxy, if_neg hab, Int.mul_sub]; omega
      · rw [if_neg hxy, if_neg hab, Int.mul_sub]; omega
  unfold priceV
  by_cases h2 : k = 2
  · rw [if_pos h2, if_pos h2, if_pos h2, hd]; grind
  · rw [if_neg h2, if_neg h2, if_neg h2, hd]
theorem bet_said {l m : List Atom} {num den : Int} (h : betErr l m num den = 0) (h1 : scaleErr l den = 0) (h2 : scaleErr m den = 0) {k : Int} (hk : kindB k = true) :
    apartErr l m k = 0 ∧ apartErr (scaleL l den) (betL l m num den) k = 0 ∧ apartErr (betL l m num den) (scaleL m den) k = 0 ∧
    apartV (scaleL l den) (betL l m num den) k = (if k = 2 then num * num else num) * apartV l m k ∧
    apartV (betL l m num den) (scaleL m den) k = (if k = 2 then (den - num) * (den - num) else (den - num)) * apartV l m k := by
  obtain ⟨b1, b2, b3, b4⟩ := betErr_ok h
  have hv := bet_yes b1 b2 b3 b4
  have hs := shareB_ok b2
  have hl := pair_units b1
  obtain ⟨s1, s2, s3⟩ := scaleErr_ok h1
  obtain ⟨t1, t2, t3⟩ := scaleErr_ok h2
  obtain ⟨d1, d2, d3⟩ := pairErr_ok b1
  have eL : betL l m num den = collectL (betU l m num den) := by unfold betL; rw [if_pos h]
  have hT : totalL (collectL (betU l m num den)) = totalL l := by
    have e := collect_total (unitsL l)
    rw [collect_units (listErr_ok d1).2] at e
    rw [collect_total, betU_length, e]
  have p1 : apartErr (scaleL l den) (betL l m num den) k = 0 := by
    refine apartErr_mk ?_ hk
    unfold pairErr
    rw [eL, scale_valid s1 s2.1 s3, hv, scale_total, hT]; simp
  have p2 : apartErr (betL l m num den) (scaleL m den) k = 0 := by
    refine apartErr_mk ?_ hk
    unfold pairErr
    rw [eL, scale_valid t1 t2.1 t3, hv, scale_total, hT, d3]; simp
  have p0 := apartErr_mk b1 hk
  refine ⟨p0, p1, p2, ?_, ?_⟩
  · unfold apartV
    rw [if_pos p1, if_pos p0, eL]
    unfold apartL
    rw [scale_units, units_collect, List.length_map, apartTo_sum, apartTo_sum, ← sumR_mul]
    refine sumR_congr (n := (unitsL l).length) (fun i hi => ?_) _ (Nat.le_refl _)
    rw [gi_map, gi_bet hi]
    refine price_mul _ _ num hs.2.2.1 ?_
    unfold betAt; grind
  · unfold apartV
    rw [if_pos p2, if_pos p0, eL]
    unfold apartL
    rw [scale_units, units_collect, betU_length, apartTo_sum, apartTo_sum, ← sumR_mul]
    refine sumR_congr (n := (unitsL l).length) (fun i hi => ?_) _ (Nat.le_refl _)
    rw [gi_map, gi_bet hi]
    refine price_mul _ _ (den - num) (by omega) ?_
    unfold betAt; grind
end Go.Proofs.Ytgnjaapjaglleaa
