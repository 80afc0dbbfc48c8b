/- Scaled lists of atoms. -/
import Derived.Test.YtgnjaapjaglleaaP8
namespace Go.Proofs.Ytgnjaapjaglleaa

def scA (by_ : Int) (x : Atom) : Atom := ⟨x.p * by_, x.m⟩
def scaleL (l : List Atom) (by_ : Int) : List Atom := l.map (scA by_)
def scOk (by_ : Int) (x : Atom) : Bool := withinB (x.p * by_) (-60000) 60000
def scaleErr (l : List Atom) (by_ : Int) : Int := if valAtoms l ≠ 0 then valAtoms l else if withinB by_ 1 60 then (if l.all (scOk by_) then 0 else 3) else 1
def scaleV (l : List Atom) (by_ : Int) : List Atom := if scaleErr l by_ = 0 then scaleL l by_ else []
theorem scaleL_length (l : List Atom) (b : Int) : (scaleL l b).length = l.length := by simp [scaleL]
/-- the list of which the first q are scaled -/
def mixL (l : List Atom) (b : Int) (q : Nat) : List Atom := l.mapIdx fun i x => if i < q then scA b x else x
theorem mixL_length (l : List Atom) (b : Int) (q : Nat) : (mixL l b q).length = l.length := by simp [mixL]
theorem mixL_zero (l : List Atom) (b : Int) : mixL l b 0 = l := by
  refine List.ext_getElem (by simp [mixL]) fun i h1 h2 => ?_
  simp [mixL]
theorem mixL_end (l : List Atom) (b : Int) : mixL l b l.length = scaleL l b := by
  refine List.ext_getElem (by simp [mixL, scaleL]) fun i h1 h2 => ?_
  have : i < l.length := by simpa [mixL] using h1
  simp [mixL, scaleL, this]
theorem mixL_at {l : List Atom} {b : Int} {q : Nat} (hq : q < l.length) : (mixL l b q)[q]'(by rw [mixL_length]; exact hq) = l[q] := by simp [mixL]
theorem mixL_set {l : List Atom} {b : Int} {q : Nat} (hq : q < l.length) : (mixL l b q).set q { l[q] with p := l[q].p * b } = mixL l b (q + 1) := by
  refine List.ext_getElem (by simp [mixL]) fun i h1 h2 => ?_
  have hi : i < l.length := by simpa [mixL] using h2
  rw [List.getElem_set]
  by_cases e : q = i
  · subst e; simp [mixL, scA]
  · rw [if_neg e]
    simp only [mixL, List.getElem_mapIdx]
    by_cases h : i < q
    · rw [if_pos h, if_pos (by omega)]
    · rw [if_neg h, if_neg (by omega)]
theorem scale_bd {l : List Atom} (h : valAtoms l = 0) {b : Int} (hb : 1 ≤ b ∧ b ≤ 60) {q : Nat} (hq : q < l.length) : -3600000 ≤ l[q].p * b ∧ l[q].p * b ≤ 3600000 := by
  have := (fine_atoms h).2 q hq
  have := mulbd (a := l[q].p) (b := b) (A := 60000) (B := 60) (by omega) (by omega)
  omega
theorem scale_pw {l : List Atom} (h : l.Pairwise (fun a b => a.p < b.p)) {b : Int} (hb : 1 ≤ b) : (scaleL l b).Pairwise (fun a b => a.p < b.p) := by
  unfold scaleL
  rw [List.pairwise_map]
  refine h.imp fun {x y} hxy => ?_
  exact Int.mul_lt_mul_of_pos_right hxy (by omega)
theorem scale_valid {l : List Atom} (h : valAtoms l = 0) {b : Int} (hb : 1 ≤ b) (hall : l.all (scOk b) = true) : valAtoms (scaleL l b) = 0 := by
  obtain ⟨h1, h2⟩ := listErr_ok h
  have : isListB 60000 1000 (scaleL l b) = true := isListB_of (fun y hy => by
    unfold scaleL at hy
    rw [List.mem_map] at hy
    obtain ⟨x, hx, rfl⟩ := hy
    have h3 := isListB_mem h2 hx
    exact ⟨withinB_iff.1 (List.all_eq_true.1 hall x hx), h3.2⟩) (scale_pw (isListB_pw h2) hb)
  unfold valAtoms listErr; rw [if_neg (by rw [scaleL_length]; omega), this]; rfl
theorem scale_far {l : List Atom} {b : Int} (hall : l.all (scOk b) = false) : valAtoms (scaleL l b) ≠ 0 := by
  intro h
  obtain ⟨h1, h2⟩ := listErr_ok h
  rw [List.all_eq_false] at hall
  obtain ⟨x, hx, h3⟩ := hall
  have := isListB_mem h2 (y := scA b x) (by unfold scaleL; exact List.mem_map.2 ⟨x, hx, rfl⟩)
  exact h3 (withinB_iff.2 this.1)
theorem scaleErr_ok {l : List Atom} {b : Int} (h : scaleErr l b = 0) : valAtoms l = 0 ∧ (1 ≤ b ∧ b ≤ 60) ∧ l.all (scOk b) = true := by
  unfold scaleErr at h
  by_cases h1 : valAtoms l = 0
  · rw [if_neg (by simpa using h1)] at h
    by_cases h2 : withinB b 1 60 = true
    · rw [if_pos h2] at h
      by_cases h3 : l.all (scOk b) = true
      · exact ⟨h1, withinB_iff.1 h2, h3⟩
      · rw [if_neg h3] at h; simp at h
    · rw [if_neg h2] at h; simp at h
  · rw [if_pos h1] at h; exact absurd h h1
theorem scale_units (l : List Atom) (b : Int) : unitsL (scaleL l b) = (unitsL l).map (· * b) := by
  induction l with
  | nil => rfl
  | cons x l ih =>
    have e1 : unitsL (x :: l) = List.replicate x.m.toNat x.p ++ unitsL l := by simp [unitsL]
    have e2 : unitsL (scaleL (x :: l) b) = List.replicate x.m.toNat (x.p * b) ++ unitsL (scaleL l b) := by simp [unitsL, scaleL, scA]
    rw [e1, e2, ih, List.map_append, List.map_replicate]
theorem scale_total (l : List Atom) (b : Int) : totalL (scaleL l b) = totalL l := by simp [totalL, scaleL, scA, Function.comp_def]
theorem gi_map (U : List Int) (b : Int) (i : Nat) : gi (U.map (· * b)) i = gi U i * b := by
  simp only [gi, List.getElem?_map]
  cases U[i]? <;> simp
theorem priceV_scale (a c b : Int) : priceV (a * b) (c * b) 2 = b * b * priceV a c 2 := by
  rw [priceV_two, priceV_two]; grind
theorem apart_scale (l m : List Atom) (b : Int) : apartL (scaleL l b) (scaleL m b) 2 = b * b * apartL l m 2 := by
  unfold apartL
  rw [scale_units, scale_units, List.length_map, apartTo_sum, apartTo_sum, ← sumR_mul]
  refine sumR_congr (n := (unitsL l).length) (fun i _ => ?_) _ (Nat.le_refl _)
  rw [gi_map, gi_map, priceV_scale]
theorem scales_said {l m : List Atom} {b : Int} (h1 : scaleErr l b = 0) (h2 : scaleErr m b = 0) (h3 : apartErr l m 2 = 0) : apartErr (scaleL l b) (scaleL m b) 2 = 0 ∧ apartV (scaleL l b) (scaleL m b) 2 = b * b * apartV l m 2 := by
  obtain ⟨a1, a2, a3⟩ := scaleErr_ok h1
  obtain ⟨b1, b2, b3⟩ := scaleErr_ok h2
  obtain ⟨c1, c2⟩ := apartErr_ok h3
  obtain ⟨d1, d2, d3⟩ := pairErr_ok c1
  have hp : pairErr (scaleL l b) (scaleL m b) = 0 := by
    unfold pairErr
    rw [scale_valid a1 a2.1 a3, scale_valid b1 a2.1 b3, scale_total, scale_total, d3]; simp
  have he := apartErr_mk hp c2
  refine ⟨he, ?_⟩
  unfold apartV
  rw [if_pos he, if_pos h3, apart_scale]
end Go.Proofs.Ytgnjaapjaglleaa
