/- The plain law of the cells: the owner of a pixel is the first site with the smallest power. -/
import Derived.Test.YtodlbgncdggimaaT8
namespace Go.Proofs.Ytodlbgncdggimaa

theorem exists_first (p : Nat → Prop) [DecidablePred p] : ∀ n, (∃ j, j < n ∧ p j) → ∃ i, i < n ∧ p i ∧ ∀ j, j < i → ¬ p j
  | 0, h => by obtain ⟨j, hj, _⟩ := h; omega
  | n + 1, h => by
    by_cases h' : ∃ j, j < n ∧ p j
    · obtain ⟨i, hi, h1, h2⟩ := exists_first p n h'
      exact ⟨i, by omega, h1, h2⟩
    · obtain ⟨j, hj, hp⟩ := h
      have : j = n := by
        rcases Nat.lt_or_ge j n with h1 | h1
        · exact absurd ⟨j, h1, hp⟩ h'
        · omega
      subst this
      exact ⟨j, by omega, hp, fun q hq hpq => h' ⟨q, hq, hpq⟩⟩

theorem minTo_spec (l : List Int) : ∀ k, 1 ≤ k → k ≤ l.length → (∀ j, j < k → minTo l k ≤ l[j]?.getD 0) ∧ ∃ j, j < k ∧ l[j]?.getD 0 = minTo l k
  | 0, h, _ => by omega
  | k + 1, _, hk => by
    by_cases h0 : k = 0
    · subst h0
      rw [minTo_one]
      exact ⟨fun j hj => by obtain rfl : j = 0 := by omega
                            exact Int.le_refl _, 0, by omega, rfl⟩
    · obtain ⟨h1, j0, hj0, h2⟩ := minTo_spec l k (by omega) (by omega)
      have hlt : k < l.length := by omega
      rw [minTo_succ l (by omega) hlt]
      have e : l[k]?.getD 0 = l[k] := by rw [List.getElem?_eq_getElem hlt, Option.getD_some]
      split
      · rename_i h
        refine ⟨fun j hj => ?_, k, by omega, e⟩
        by_cases ej : j = k
        · subst ej; omega
        · have := h1 j (by omega); omega
      · rename_i h
        refine ⟨fun j hj => ?_, j0, by omega, h2⟩
        by_cases ej : j = k
        · subst ej; omega
        · exact h1 j (by omega)

/-- i is the first site with the smallest power -/
def IsOwn (l : List Site) (x y : Int) (i : Nat) : Prop := i < l.length ∧ (∀ j, j < l.length → pw l x y i ≤ pw l x y j) ∧ ∀ j, j < i → pw l x y i < pw l x y j

theorem IsOwn.unique {l : List Site} {x y : Int} {i k : Nat} (h : IsOwn l x y i) (h' : IsOwn l x y k) : i = k := by
  rcases Nat.lt_trichotomy i k with h1 | h1 | h1
  · have := h'.2.2 i h1; have := h.2.1 k h'.1; omega
  · exact h1
  · have := h.2.2 k h1; have := h'.2.1 i h.1; omega

/-- the smallest power at a point -/
def leastP (l : List Site) (x y : Int) : Int := minTo (l.map fun s => pow s x y) l.length

theorem map_pow_at (l : List Site) (x y : Int) (j : Nat) : (l.map fun s => pow s x y)[j]?.getD 0 = pw l x y j := by
  unfold pw
  rw [List.getElem?_map]
  cases l[j]? <;> rfl

theorem leastP_spec (l : List Site) (x y : Int) (h1 : 1 ≤ l.length) : (∀ j, j < l.length → leastP l x y ≤ pw l x y j) ∧ ∃ i, pw l x y i = leastP l x y ∧ IsOwn l x y i := by
  obtain ⟨h2, j0, hj0, h3⟩ := minTo_spec (l.map fun s => pow s x y) l.length h1 (by simp)
  have h2' : ∀ j, j < l.length → leastP l x y ≤ pw l x y j := fun j hj => by have := h2 j hj; rwa [map_pow_at] at this
  rw [map_pow_at] at h3
  refine ⟨h2', ?_⟩
  obtain ⟨i, hi, hp, hf⟩ := exists_first (fun j => pw l x y j = leastP l x y) l.length ⟨j0, hj0, h3⟩
  refine ⟨i, hp, hi, fun j hj => ?_, fun j hj => ?_⟩
  · rw [hp]; exact h2' j hj
  · have := hf j hj; have := h2' j (by omega); omega

theorem IsOwn.least {l : List Site} {x y : Int} {i : Nat} (h : IsOwn l x y i) : pw l x y i = leastP l x y := by
  obtain ⟨_, k, hk, hk2⟩ := leastP_spec l x y (by have := h.1; omega)
  rw [h.unique hk2]; exact hk

theorem pws_at (l : List Site) (x y : Int) (j : Nat) (hj : j < 5) : ([pw l x y 0, pw l x y 1, pw l x y 2, pw l x y 3, pw l x y 4] : List Int)[j]?.getD 0 = pw l x y j := by
  match j, hj with
  | 0, _ => rfl
  | 1, _ => rfl
  | 2, _ => rfl
  | 3, _ => rfl
  | 4, _ => rfl

theorem own_is (l : List Site) (wd k : Nat) (h : okSites l = true) : ∃ i : Nat, own l wd k = i ∧ IsOwn l ((k : Int) % (wd : Int)) ((k : Int) / (wd : Int)) i := by
  obtain ⟨h1, h5⟩ := okSites_len h
  obtain ⟨_, i, hi, ho⟩ := leastP_spec l ((k : Int) % (wd : Int)) ((k : Int) / (wd : Int)) h1
  refine ⟨i, ?_, ho⟩
  have hi5 : i < 5 := Nat.lt_of_lt_of_le ho.1 h5
  unfold own idxOf
  refine idxP_hit (by simpa using hi5) (fun j hj => ?_) ?_
  · rw [pws_at _ _ _ _ (by omega)]
    have := ho.2.2 j hj
    have e : minTo (l.map fun s => pow s ((k : Int) % (wd : Int)) ((k : Int) / (wd : Int))) l.length = leastP l ((k : Int) % (wd : Int)) ((k : Int) / (wd : Int)) := rfl
    rw [e, ← hi, beq_eq_false_iff_ne]
    omega
  · have h2 := pws_at l ((k : Int) % (wd : Int)) ((k : Int) / (wd : Int)) i hi5
    rw [List.getElem?_eq_getElem (by simpa using hi5), Option.getD_some] at h2
    rw [h2, hi]
    exact beq_self_eq_true _

theorem own_unique {l : List Site} {wd k i : Nat} (h : okSites l = true) (hi : IsOwn l ((k : Int) % (wd : Int)) ((k : Int) / (wd : Int)) i) : own l wd k = i := by
  obtain ⟨j, h1, h2⟩ := own_is l wd k h
  rw [h1, h2.unique hi]

theorem pw_in {l : List Site} {x y : Int} {i : Nat} (h : i < l.length) : pw l x y i = pow l[i] x y := by simp [pw, h]

/-! ### adding a number to all weights -/
def alike (l : List Site) (b : Int) : List Site := l.map fun s => ⟨s.x, s.y, s.w + b⟩
theorem alike_length (l : List Site) (b : Int) : (alike l b).length = l.length := by simp [alike]
theorem pw_alike {l : List Site} {b x y : Int} {i : Nat} (h : i < l.length) : pw (alike l b) x y i = pw l x y i - b := by
  rw [pw_in h, pw_in (by rw [alike_length]; exact h)]
  simp only [alike, List.getElem_map, pow, sq]
  omega
theorem isOwn_alike {l : List Site} {b x y : Int} {i : Nat} (h : IsOwn l x y i) : IsOwn (alike l b) x y i := by
  refine ⟨by rw [alike_length]; exact h.1, fun j hj => ?_, fun j hj => ?_⟩
  · rw [alike_length] at hj
    rw [pw_alike h.1, pw_alike hj]
    have := h.2.1 j hj; omega
  · have h1 := h.1
    rw [pw_alike h.1, pw_alike (by omega)]
    have := h.2.2 j hj; omega
theorem cells_alike {l : List Site} {b x y : Int} (h : okField l x y = true) (h' : okField (alike l b) x y = true) : cellsL (alike l b) x y = cellsL l x y := by
  unfold cellsL
  rw [h, h', if_pos rfl, if_pos rfl]
  unfold owns
  refine List.map_congr_left fun k _ => ?_
  obtain ⟨i, h1, h2⟩ := own_is l x.toNat k (okField_bd h).1
  rw [h1]
  exact own_unique (okField_bd h').1 (isOwn_alike h2)
end Go.Proofs.Ytodlbgncdggimaa
