/- The units of a list of atoms. -/
import Derived.Test.YtgnjaapjaglleaaT3
import Derived.Test.YtgnjaapjaglleaaBlk
namespace Go.Proofs.Ytgnjaapjaglleaa

def unitsL (l : List Atom) : List Int := l.flatMap fun x => List.replicate x.m.toNat x.p
/-- the units of the first k atoms, and q units of the next one -/
def un (l : List Atom) (k q : Nat) : List Int := unitsL (l.take k) ++ List.replicate q (atK l k).p
theorem un_zero (l : List Atom) : un l 0 0 = [] := by simp [un, unitsL]
theorem un_succ {l : List Atom} {k : Nat} (hk : k < l.length) (q : Nat) : un l k (q + 1) = un l k q ++ [l[k].p] := by
  unfold un; rw [List.replicate_succ', atK_at hk, List.append_assoc]
theorem un_next {l : List Atom} {k : Nat} (hk : k < l.length) : un l k l[k].m.toNat = un l (k + 1) 0 := by
  unfold un unitsL; rw [atK_at hk, List.take_succ_eq_append_getElem hk, List.flatMap_append]; simp
theorem un_end (l : List Atom) : un l l.length 0 = unitsL l := by simp [un]
theorem units_length {l : List Atom} (h : Fine l) : ∀ k, k ≤ l.length → ((unitsL (l.take k)).length : Int) = totalL (l.take k)
  | 0, _ => by simp [unitsL, totalL]
  | k + 1, hk => by
    have ih := units_length h k (by omega)
    have hm := h.2 k (by omega)
    have e : unitsL (l.take (k + 1)) = unitsL (l.take k) ++ List.replicate l[k].m.toNat l[k].p := by
      unfold unitsL; rw [List.take_succ_eq_append_getElem (by omega), List.flatMap_append]; simp
    rw [e, take_sum l (by omega), List.length_append, List.length_replicate]
    omega
theorem units_len {l : List Atom} (h : Fine l) : ((unitsL l).length : Int) = totalL l := by
  have := units_length h l.length (Nat.le_refl _)
  rwa [List.take_length] at this
theorem un_len {l : List Atom} (h : Fine l) {k : Nat} (hk : k < l.length) {q : Nat} (hq : q ≤ l[k].m.toNat) : (un l k q).length ≤ 40000 := by
  have h1 := units_length h k (by omega)
  have h2 := fine_bd h k (by omega)
  have h3 := h.2 k hk
  have h4 := h.1
  unfold un; rw [List.length_append, List.length_replicate]
  omega
theorem units_bd {l : List Atom} (h : Fine l) {k : Nat} (hk : k < (unitsL l).length) : -60000 ≤ (unitsL l)[k] ∧ (unitsL l)[k] ≤ 60000 := by
  have hm : (unitsL l)[k] ∈ unitsL l := List.getElem_mem hk
  unfold unitsL at hm
  rw [List.mem_flatMap] at hm
  obtain ⟨x, hx, h2⟩ := hm
  obtain ⟨j, hj, rfl⟩ := List.getElem_of_mem hx
  have := (h.2 j hj).1
  rw [List.mem_replicate] at h2
  obtain ⟨_, h3⟩ := h2
  have e : (unitsL l)[k] = l[j].p := h3
  rw [e]
  exact this
def distI (a b : Int) : Int := if a ≤ b then b - a else a - b
def priceV (a b k : Int) : Int := if k = 2 then distI a b * distI a b else distI a b
/-- the sum of the prices of the first n pairs -/
def apartTo (u v : List Int) (k : Int) (n : Nat) : Int := ((List.range n).map fun i => priceV (u[i]?.getD 0) (v[i]?.getD 0) k).sum
theorem apartTo_succ (u v : List Int) (k : Int) (n : Nat) : apartTo u v k (n + 1) = apartTo u v k n + priceV (u[n]?.getD 0) (v[n]?.getD 0) k := by
  unfold apartTo; rw [List.range_succ, List.map_append, List.sum_append]; simp
theorem distI_bd {a b : Int} {A : Int} (ha : -A ≤ a ∧ a ≤ A) (hb : -A ≤ b ∧ b ≤ A) : 0 ≤ distI a b ∧ distI a b ≤ 2 * A := by
  unfold distI; split <;> omega
theorem priceV_bd {a b : Int} (ha : -60000 ≤ a ∧ a ≤ 60000) (hb : -60000 ≤ b ∧ b ≤ 60000) (k : Int) : 0 ≤ priceV a b k ∧ priceV a b k ≤ 14400000000 := by
  have h := distI_bd ha hb
  unfold priceV
  split
  · exact ⟨Int.mul_nonneg h.1 h.1, by have := Int.mul_le_mul h.2 h.2 h.1 (by omega); omega⟩
  · omega
theorem apartTo_bd {u v : List Int} (hu : ∀ j, j < u.length → -60000 ≤ u[j]?.getD 0 ∧ u[j]?.getD 0 ≤ 60000) (hv : ∀ j, j < v.length → -60000 ≤ v[j]?.getD 0 ∧ v[j]?.getD 0 ≤ 60000) (k : Int) :
    ∀ n, n ≤ u.length → n ≤ v.length → 0 ≤ apartTo u v k n ∧ apartTo u v k n ≤ n * 14400000000
  | 0, _, _ => by simp [apartTo]
  | n + 1, h1, h2 => by
    have h := apartTo_bd hu hv k n (by omega) (by omega)
    have p := priceV_bd (hu n (by omega)) (hv n (by omega)) k
    rw [apartTo_succ]
    omega
def apartL (l m : List Atom) (k : Int) : Int := apartTo (unitsL l) (unitsL m) k (unitsL l).length
theorem units_in {l : List Atom} (h : Fine l) : ∀ j, j < (unitsL l).length → -60000 ≤ (unitsL l)[j]?.getD 0 ∧ (unitsL l)[j]?.getD 0 ≤ 60000 := fun j hj => by
  rw [List.getElem?_eq_getElem hj, Option.getD_some]; exact units_bd h hj
theorem units_eq {l m : List Atom} (hl : Fine l) (hm : Fine m) (ht : totalL l = totalL m) : (unitsL l).length = (unitsL m).length := by
  have h1 := units_len hl
  have h2 := units_len hm
  omega
theorem units_40 {l : List Atom} (h : Fine l) : (unitsL l).length ≤ 40000 := by
  have h1 := units_len h
  have h2 := fine_total h
  omega
/-- each number of u is at most the one of v -/
def leU (u v : List Int) : Bool := (List.range u.length).all fun i => decide (u[i]?.getD 0 ≤ v[i]?.getD 0)
theorem leU_no {u v : List Int} {k : Nat} (hk : k < u.length) (h : v[k]?.getD 0 < u[k]?.getD 0) : leU u v = false := by
  unfold leU; rw [List.all_eq_false]; exact ⟨k, List.mem_range.2 hk, by simp; omega⟩
theorem leU_yes {u v : List Int} (h : ∀ j, j < u.length → u[j]?.getD 0 ≤ v[j]?.getD 0) : leU u v = true := by
  unfold leU; rw [List.all_eq_true]; exact fun j hj => by simpa using h j (List.mem_range.1 hj)
theorem leU_at {u v : List Int} (h : leU u v = true) {j : Nat} (hj : j < u.length) : u[j]?.getD 0 ≤ v[j]?.getD 0 := by
  unfold leU at h; rw [List.all_eq_true] at h; simpa using h j (List.mem_range.2 hj)
end Go.Proofs.Ytgnjaapjaglleaa
