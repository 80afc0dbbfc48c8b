/- Numbers in ascending order; the lists of a rank. -/
import Derived.Test.YtgnjaapjaglleaaP10
namespace Go.Proofs.Ytgnjaapjaglleaa

def leB (x y : Int) : Bool := decide (x ≤ y)
def sortI (l : List Int) : List Int := l.mergeSort fun x y => decide (x ≤ y)
theorem sortI_length (l : List Int) : (sortI l).length = l.length := by unfold sortI; exact List.length_mergeSort l
theorem sortI_perm (l : List Int) : (sortI l).Perm l := List.mergeSort_perm _ _
theorem sortI_pw (l : List Int) : (sortI l).Pairwise (· ≤ ·) := by
  have := List.pairwise_mergeSort (le := fun x y : Int => decide (x ≤ y)) (fun a b c h1 h2 => by simp at *; omega) (fun a b => by simp; omega) l
  exact this.imp fun h => by simpa using h
theorem sortI_eq {L l : List Int} (h : L.Pairwise (· ≤ ·)) (hp : L.Perm l) : L = sortI l :=
  List.Perm.eq_of_pairwise (fun _ _ _ _ h1 h2 => Int.le_antisymm h1 h2) h (sortI_pw l) (hp.trans (sortI_perm l).symm)
theorem pw_asc {L : List Int} (h : L.Pairwise (· ≤ ·)) {i j : Nat} (hij : i ≤ j) (hj : j < L.length) : gi L i ≤ gi L j := by
  rcases Nat.eq_or_lt_of_le hij with e | e
  · rw [e]; exact Int.le_refl _
  · have := List.pairwise_iff_getElem.1 h i j (by omega) hj e
    simp only [gi]; rw [List.getElem?_eq_getElem (by omega), List.getElem?_eq_getElem hj]; simpa using this
theorem asc_pw {L : List Int} (h : Asc L) : L.Pairwise (· ≤ ·) := by
  rw [List.pairwise_iff_getElem]
  intro i j hi hj hij
  have := h.le (i := i) (j - i) (by omega)
  rw [show i + (j - i) = j by omega] at this
  simp only [gi] at this
  rw [List.getElem?_eq_getElem (by omega), List.getElem?_eq_getElem hj] at this
  simpa using this
theorem gi_mem {L : List Int} {i : Nat} (hi : i < L.length) : gi L i ∈ L := by
  simp only [gi]; rw [List.getElem?_eq_getElem hi, Option.getD_some]; exact List.getElem_mem hi
theorem mem_gi {L : List Int} {x : Int} (h : x ∈ L) : ∃ i, i < L.length ∧ gi L i = x := by
  obtain ⟨i, hi, rfl⟩ := List.getElem_of_mem h
  exact ⟨i, hi, by simp only [gi]; rw [List.getElem?_eq_getElem hi, Option.getD_some]⟩

/-- one more number moved down into numbers in ascending order: it stands at k -/
def insAt (S : List Int) (x : Int) (k : Nat) : List Int := S.take k ++ x :: S.drop k
theorem insAt_length (S : List Int) (x : Int) {k : Nat} : (insAt S x k).length = S.length + 1 := by
  unfold insAt; simp; omega
theorem insAt_perm (S : List Int) (x : Int) (k : Nat) : (insAt S x k).Perm (S ++ [x]) := by
  unfold insAt
  have h1 : (S.take k ++ x :: S.drop k).Perm (x :: (S.take k ++ S.drop k)) := List.perm_middle
  rw [List.take_append_drop] at h1
  exact h1.trans (List.perm_append_comm (l₁ := [x]) (l₂ := S))
theorem insAt_pw {S : List Int} {x : Int} {k : Nat} (hk : k ≤ S.length) (hS : S.Pairwise (· ≤ ·)) (h1 : ∀ j, j < k → gi S j ≤ x) (h2 : ∀ j, k ≤ j → j < S.length → x ≤ gi S j) : (insAt S x k).Pairwise (· ≤ ·) := by
  unfold insAt
  rw [List.pairwise_append]
  refine ⟨hS.sublist (List.take_sublist _ _), ?_, ?_⟩
  · rw [List.pairwise_cons]
    refine ⟨fun a ha => ?_, hS.sublist (List.drop_sublist _ _)⟩
    obtain ⟨i, hi, rfl⟩ := List.getElem_of_mem ha
    have hi' : k + i < S.length := by simp at hi; omega
    have := h2 (k + i) (by omega) hi'
    simp only [gi] at this
    rw [List.getElem?_eq_getElem hi', Option.getD_some] at this
    simpa using this
  · intro a ha b hb
    obtain ⟨i, hi, rfl⟩ := List.getElem_of_mem ha
    have hi' : i < k := by simp at hi; omega
    have e1 := h1 i hi'
    simp only [gi] at e1
    rw [List.getElem?_eq_getElem (by omega), Option.getD_some] at e1
    rcases List.mem_cons.1 hb with rfl | hb
    · simpa using e1
    · obtain ⟨j, hj, rfl⟩ := List.getElem_of_mem hb
      have hj' : k + j < S.length := by simp at hj; omega
      have := List.pairwise_iff_getElem.1 hS i (k + j) (by omega) hj' (by omega)
      simpa using this

/-- how many are at most t -/
theorem rank_iff : ∀ {L : List Int}, L.Pairwise (· ≤ ·) → ∀ {r : Nat} {t : Int}, r < L.length → (gi L r ≤ t ↔ r < L.countP (fun x => decide (x ≤ t)))
  | a :: L, h, 0, t, _ => by
    have hh := List.pairwise_cons.1 h
    rw [List.countP_cons]
    have e : gi (a :: L) 0 = a := rfl
    rw [e]
    by_cases ha : a ≤ t
    · simp [ha]
    · have : L.countP (fun x => decide (x ≤ t)) = 0 := by
        rw [List.countP_eq_zero]; intro x hx; have := hh.1 x hx; simp; omega
      simp [ha, this]
  | a :: L, h, r + 1, t, hr => by
    have hh := List.pairwise_cons.1 h
    have ih := rank_iff hh.2 (r := r) (t := t) (by simpa using hr)
    have e : gi (a :: L) (r + 1) = gi L r := rfl
    rw [e, List.countP_cons]
    by_cases ha : a ≤ t
    · simp [ha]; exact ih
    · have h0 : L.countP (fun x => decide (x ≤ t)) = 0 := by
        rw [List.countP_eq_zero]; intro x hx; have := hh.1 x hx; simp; omega
      have h1 : a ≤ gi L r := hh.1 _ (gi_mem (by simpa using hr))
      simp [ha, h0]; omega
theorem count_le {P Q : List Int} (t : Int) (hl : P.length = Q.length) (h : ∀ i, i < P.length → gi P i ≤ gi Q i) : Q.countP (fun x => decide (x ≤ t)) ≤ P.countP (fun x => decide (x ≤ t)) := by
  induction P generalizing Q with
  | nil => cases Q with
    | nil => simp
    | cons b Q => simp at hl
  | cons a P ih => cases Q with
    | nil => simp at hl
    | cons b Q =>
      have h1 := ih (Q := Q) (by simpa using hl) (fun i hi => h (i + 1) (by simpa using hi))
      have h0 : a ≤ b := h 0 (by simp)
      rw [List.countP_cons, List.countP_cons]
      by_cases hb : b ≤ t
      · have ha : a ≤ t := by omega
        simp [ha, hb]; exact h1
      · simp [hb]; omega
/-- a rank grows with the numbers -/
theorem rank_mono {P Q : List Int} (hl : P.length = Q.length) (h : ∀ i, i < P.length → gi P i ≤ gi Q i) {r : Nat} (hr : r < P.length) : gi (sortI P) r ≤ gi (sortI Q) r := by
  rw [rank_iff (sortI_pw P) (by rw [sortI_length]; exact hr), (sortI_perm P).countP_eq]
  have h1 := (rank_iff (sortI_pw Q) (r := r) (t := gi (sortI Q) r) (by rw [sortI_length]; omega)).1 (Int.le_refl _)
  rw [(sortI_perm Q).countP_eq] at h1
  exact Nat.lt_of_lt_of_le h1 (count_le _ hl h)

def rankU (ll : List (List Atom)) (r : Nat) : List Int := (List.range (unitsN ll)).map fun k => gi (sortI (placesL ll k)) r
def rankL (ll : List (List Atom)) (r : Nat) : List Atom := collectL (rankU ll r)
theorem rankU_length (ll : List (List Atom)) (r : Nat) : (rankU ll r).length = unitsN ll := by simp [rankU]
theorem gi_rank {ll : List (List Atom)} {r k : Nat} (hk : k < unitsN ll) : gi (rankU ll r) k = gi (sortI (placesL ll k)) r := by simp [gi, rankU, hk]
theorem rankU_take {ll : List (List Atom)} {r k : Nat} (hk : k < unitsN ll) : (rankU ll r).take (k + 1) = (rankU ll r).take k ++ [gi (sortI (placesL ll k)) r] := by
  rw [List.take_succ_eq_append_getElem (by rw [rankU_length]; exact hk)]
  simp [rankU]
theorem sort_bd {ll : List (List Atom)} (h : OkLoads ll) {k : Nat} (hk : k < unitsN ll) {r : Nat} (hr : r < ll.length) : -1000 ≤ gi (sortI (placesL ll k)) r ∧ gi (sortI (placesL ll k)) r ≤ 1000 := by
  have hm : gi (sortI (placesL ll k)) r ∈ placesL ll k := (sortI_perm _).subset (gi_mem (by rw [sortI_length, placesL_length]; exact hr))
  obtain ⟨i, hi, e⟩ := mem_gi hm
  rw [placesL_length] at hi
  rw [← e]
  exact placesL_bd h (by have := unitsN_bd h; omega) hi
theorem rank_asc {ll : List (List Atom)} (h : OkLoads ll) {r : Nat} (hr : r < ll.length) : Asc (rankU ll r) := fun j hj => by
  rw [rankU_length] at hj
  rw [gi_rank (by omega), gi_rank hj]
  refine rank_mono (by rw [placesL_length, placesL_length]) (fun i hi => ?_) (by rw [placesL_length]; exact hr)
  rw [placesL_length] at hi
  rw [gi_places hi, gi_places hi]
  exact units_asc_at h hi hj
theorem rank_valid {ll : List (List Atom)} (h : OkLoads ll) {r : Nat} (hr : r < ll.length) : valAtoms (rankL ll r) = 0 := by
  refine made_valid h (rankU_length ll r) (rank_asc h hr) (fun j hj => ?_) (fun k hk hi => ?_)
  · rw [rankU_length] at hj
    rw [gi_rank hj]
    have := sort_bd h hj hr
    omega
  · rw [gi_rank (by omega), gi_rank hk]
    have e : placesL ll k = placesL ll (k + 1) := list_eq (by rw [placesL_length, placesL_length]) fun j hj => by
      rw [placesL_length] at hj
      rw [← gi_at, ← gi_at, gi_places hj, gi_places hj]
      exact hi j hj
    rw [e]
theorem rank_total {ll : List (List Atom)} (h : OkLoads ll) (r : Nat) : totalL (rankL ll r) = totalL (gl ll 0) := by
  unfold rankL
  rw [collect_total, rankU_length, (unitsN_bd h).1]; rfl
theorem rank_units (ll : List (List Atom)) (r : Nat) : unitsL (rankL ll r) = rankU ll r := units_collect _
theorem rank_len {ll : List (List Atom)} (r : Nat) (h : OkLoads ll) (hr : r < ll.length) : (rankL ll r).length ≤ 40 := (listErr_ok (rank_valid h hr)).1
end Go.Proofs.Ytgnjaapjaglleaa
