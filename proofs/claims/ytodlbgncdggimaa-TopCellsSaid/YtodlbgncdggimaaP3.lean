/- The cells fit. -/
import Derived.Test.YtodlbgncdggimaaT18
namespace Go.Proofs.Ytodlbgncdggimaa

theorem cells_length {l : List Site} {x y : Int} (h : okField l x y = true) : ((cellsL l x y).length : Int) = x * y := by
  obtain ⟨_, h1, h2, h3, h4⟩ := okField_bd h
  obtain ⟨a, rfl⟩ := Int.eq_ofNat_of_zero_le (a := x) (by omega)
  obtain ⟨b, rfl⟩ := Int.eq_ofNat_of_zero_le (a := y) (by omega)
  unfold cellsL
  rw [if_pos h, owns_length]
  simp
theorem cells_at {l : List Site} {x y : Int} (h : okField l x y = true) {j : Nat} (hj : j < (cellsL l x y).length) : ∃ i : Nat, (cellsL l x y)[j]?.getD 0 = i ∧ IsOwn l (pxx x.toNat j) (pxy x.toNat j) i := by
  have e : cellsL l x y = owns l x.toNat (x.toNat * y.toNat) := by unfold cellsL; rw [if_pos h]
  rw [e] at hj ⊢
  rw [owns_length] at hj
  have e2 : (owns l x.toNat (x.toNat * y.toNat))[j]?.getD 0 = own l x.toNat j := by simp [owns, hj]
  rw [e2]
  exact own_is l x.toNat j (okField_bd h).1
theorem cells_owned {l : List Site} {x y : Int} (h : okField l x y = true) : okOwned l x y (cellsL l x y) = true := by
  refine owned_yes h (cells_length h) (List.all_eq_true.2 fun i hi => ?_)
  obtain ⟨j, hj, rfl⟩ := List.getElem_of_mem hi
  obtain ⟨i, h1, h2⟩ := cells_at h hj
  rw [List.getElem?_eq_getElem hj, Option.getD_some] at h1
  rw [h1, isNo, withinB_iff]
  have := h2.1
  omega
theorem cells_fit {l : List Site} {x y : Int} (h : okField l x y = true) : fitsVal l x y (cellsL l x y) = true := by
  rw [fitsVal, cells_owned h, Bool.true_and]
  refine fitsB_yes fun j hj => ?_
  obtain ⟨i, h1, h2⟩ := cells_at h hj
  unfold fitAt
  rw [h1, Int.toNat_natCast]
  exact h2.least
end Go.Proofs.Ytodlbgncdggimaa
