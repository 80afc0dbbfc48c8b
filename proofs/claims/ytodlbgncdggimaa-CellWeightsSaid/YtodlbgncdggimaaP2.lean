/- The plain law of a raised weight: a cell never shrinks, no other one grows. -/
import Derived.Test.YtodlbgncdggimaaP1
import Derived.Test.YtodlbgncdggimaaT14
namespace Go.Proofs.Ytodlbgncdggimaa

theorem set_length (l : List Site) (k : Nat) (s : Site) : (l.set k s).length = l.length := by simp
theorem pw_set {l : List Site} {k : Nat} (hk : k < l.length) (d x y : Int) {j : Nat} (hj : j < l.length) : pw (l.set k (upw l[k] d)) x y j = pw l x y j - (if j = k then d else 0) := by
  rw [pw_in (by simpa using hj), pw_in hj, List.getElem_set]
  by_cases e : k = j
  · subst e
    rw [if_pos rfl, if_pos rfl]
    simp only [upw, pow, sq]
    omega
  · rw [if_neg e, if_neg (Ne.symm e)]
    omega

theorem own_grows {l : List Site} {k a b : Nat} {d x y : Int} (hk : k < l.length) (hd : 0 ≤ d) (ha : IsOwn l x y a) (hb : IsOwn (l.set k (upw l[k] d)) x y b) : a = b ∨ b = k := by
  by_cases e : b = k
  · exact .inr e
  refine .inl ?_
  have hbl : b < l.length := by simpa using hb.1
  have h1 := hb.2.1 a (by simpa using ha.1)
  rw [pw_set hk d x y hbl, pw_set hk d x y ha.1, if_neg e] at h1
  have h2 := ha.2.1 b hbl
  have hpos : 0 ≤ (if a = k then d else 0) := by split <;> omega
  rcases Nat.lt_trichotomy a b with h | h | h
  · have h3 := hb.2.2 a h
    rw [pw_set hk d x y hbl, pw_set hk d x y ha.1, if_neg e] at h3
    omega
  · exact h
  · have h3 := ha.2.2 b h
    omega

theorem okSites_set {l : List Site} {k : Nat} {d : Int} (hk : k < l.length) (h : okSites l = true) (hb : okBy l[k] d = true) : okSites (l.set k (upw l[k] d)) = true := by
  have h5 := okSites_len h
  refine okSites_yes (by simpa using h5.1) (by simpa using h5.2) fun j _ hj => ?_
  have hj' : j < l.length := by simpa using hj
  rw [List.getElem_set]
  split
  · rename_i e
    have := okSites_at h hk
    simp only [okBy, Bool.and_eq_true] at hb
    simp only [okSite, Bool.and_eq_true, upw] at this ⊢
    exact ⟨this.1, hb.2⟩
  · exact okSites_at h hj'

theorem cells_raised {l : List Site} {k : Nat} {d x y : Int} (hk : k < l.length) (hd : 0 ≤ d) (h : okField l x y = true) (hb : okBy l[k] d = true) :
    okField (l.set k (upw l[k] d)) x y = true ∧ (cellsL (l.set k (upw l[k] d)) x y).length = (cellsL l x y).length ∧
      ∀ p, p < (cellsL l x y).length → (cellsL l x y)[p]?.getD 0 = (cellsL (l.set k (upw l[k] d)) x y)[p]?.getD 0 ∨ (cellsL (l.set k (upw l[k] d)) x y)[p]?.getD 0 = k := by
  have h1 := okSites_set hk (okField_bd h).1 hb
  have h2 : okField (l.set k (upw l[k] d)) x y = true := by
    simp only [okField, Bool.and_eq_true] at h ⊢
    exact ⟨h1, h.2⟩
  refine ⟨h2, ?_, ?_⟩
  · unfold cellsL; rw [h, h2, if_pos rfl, if_pos rfl, owns_length, owns_length]
  · unfold cellsL; rw [h, h2, if_pos rfl, if_pos rfl]
    intro p hp
    rw [owns_length] at hp
    have e : ∀ m : List Site, (owns m x.toNat (x.toNat * y.toNat))[p]?.getD 0 = own m x.toNat p := fun m => by
      simp [owns, hp]
    rw [e, e]
    obtain ⟨i, hi, hi2⟩ := own_is l x.toNat p (okField_bd h).1
    obtain ⟨j, hj, hj2⟩ := own_is _ x.toNat p h1
    rw [hi, hj]
    rcases own_grows hk hd hi2 hj2 with h | h
    · exact .inl (by rw [h])
    · exact .inr (by rw [h])

theorem raise_cases (l : List Site) (i y : Int) : (raiseErr l i y = 0 ∧ ∃ k : Nat, ∃ hk : k < l.length, i = k ∧ okBy l[k] y = true ∧ raised l i y = l.set k (upw l[k] y)) ∨ (raiseErr l i y = 1 ∨ raiseErr l i y = 4) := by
  cases h : okSites l with
  | false => exact .inr (.inl (rb_bad h).2)
  | true =>
    cases h2 : isNo l i with
    | false => exact .inr (.inr (rb_no h h2).2)
    | true =>
      obtain ⟨k, rfl, hk⟩ := isNo_at h2
      cases h3 : okBy l[k] y with
      | false => exact .inr (.inl (rb_far h hk h3).2)
      | true => exact .inl ⟨(rb_ok h hk h3).2, k, hk, rfl, h3, (rb_ok h hk h3).1⟩
end Go.Proofs.Ytodlbgncdggimaa
