/- A list of atoms is told by its units; distances between lists. -/
import Derived.Test.YtgnjaapjaglleaaP4
namespace Go.Proofs.Ytgnjaapjaglleaa

theorem addU_snoc (out : List Atom) (p m : Int) : addU (out ++ [⟨p, m⟩]) p = out ++ [⟨p, m + 1⟩] := by
  unfold addU
  simp [List.getLast?_append]
theorem addU_new {out : List Atom} {p : Int} (h : ∀ x, out.getLast? = some x → x.p ≠ p) : addU out p = out ++ [⟨p, 1⟩] := by
  unfold addU
  cases hx : out.getLast? with
  | none => rfl
  | some x => simp only; rw [if_neg (h x hx)]
theorem fold_replicate {out : List Atom} {p : Int} (h : ∀ x, out.getLast? = some x → x.p ≠ p) : ∀ q : Nat, (List.replicate (q + 1) p).foldl addU out = out ++ [⟨p, ((q + 1 : Nat) : Int)⟩]
  | 0 => by simp [addU_new h]
  | q + 1 => by
    rw [List.replicate_succ', List.foldl_append, fold_replicate h q]
    simp only [List.foldl_cons, List.foldl_nil]
    rw [addU_snoc]
    congr 1
theorem last_take {l : List Atom} {k : Nat} (hk : k + 1 ≤ l.length) : (l.take (k + 1)).getLast? = some (atK l k) := by
  rw [List.getLast?_eq_getElem?, List.length_take, Nat.min_eq_left hk, Nat.add_sub_cancel, List.getElem?_take_of_lt (by omega), List.getElem?_eq_getElem (by omega), atK_at (by omega)]
theorem collect_units_take {P M : Int} {l : List Atom} (h : isListB P M l = true) : ∀ k, k ≤ l.length → collectL (unitsL (l.take k)) = l.take k
  | 0, _ => by simp [unitsL, collectL]
  | k + 1, hk => by
    have ih := collect_units_take h k (by omega)
    have hg := goodAt_spec (by omega) (isListB_at h (show k < l.length by omega))
    have e : unitsL (l.take (k + 1)) = unitsL (l.take k) ++ List.replicate l[k].m.toNat l[k].p := by
      unfold unitsL; rw [List.take_succ_eq_append_getElem (by omega), List.flatMap_append]; simp
    obtain ⟨q, hq⟩ : ∃ q, l[k].m.toNat = q + 1 := ⟨l[k].m.toNat - 1, by omega⟩
    unfold collectL at ih ⊢
    rw [e, List.foldl_append, ih, hq, fold_replicate, List.take_succ_eq_append_getElem (by omega)]
    · congr 2
      have : l[k].m = ((q + 1 : Nat) : Int) := by omega
      rw [← this]
    · intro x hx
      cases k with
      | zero => simp at hx
      | succ k =>
        rw [last_take (by omega)] at hx
        have h3 := hg.2.2 (by omega)
        rw [Nat.add_sub_cancel] at h3
        have : atK l k = x := by simpa using hx
        rw [← this]
        omega
theorem collect_units {P M : Int} {l : List Atom} (h : isListB P M l = true) : collectL (unitsL l) = l := by
  have := collect_units_take h l.length (Nat.le_refl _)
  rwa [List.take_length] at this
theorem units_inj {P M P' M' : Int} {l m : List Atom} (hl : isListB P M l = true) (hm : isListB P' M' m = true) (h : unitsL l = unitsL m) : l = m := by
  rw [← collect_units hl, ← collect_units hm, h]
theorem atoms_inj {l m : List Atom} (hl : valAtoms l = 0) (hm : valAtoms m = 0) (h : unitsL l = unitsL m) : l = m := units_inj (listErr_ok hl).2 (listErr_ok hm).2 h
theorem list_eq {u v : List Int} (h : u.length = v.length) (h2 : ∀ j, j < u.length → u[j]?.getD 0 = v[j]?.getD 0) : u = v := by
  refine List.ext_getElem h fun j h1 h3 => ?_
  have := h2 j h1
  rw [List.getElem?_eq_getElem h1, List.getElem?_eq_getElem h3] at this
  simpa using this
theorem leU_refl (u : List Int) : leU u u = true := leU_yes fun _ _ => Int.le_refl _
theorem leU_anti {u v : List Int} (hl : u.length = v.length) (h1 : leU u v = true) (h2 : leU v u = true) : u = v :=
  list_eq hl fun j hj => Int.le_antisymm (leU_at h1 hj) (leU_at h2 (by omega))
theorem pair_symm {l m : List Atom} (h : pairErr l m = 0) : pairErr m l = 0 := by
  obtain ⟨h1, h2, h3⟩ := pairErr_ok h
  unfold pairErr; rw [h1, h2, h3]; simp
theorem pair_self {l m : List Atom} (h : pairErr l m = 0) : pairErr l l = 0 := by
  obtain ⟨h1, h2, h3⟩ := pairErr_ok h
  unfold pairErr; rw [h1]; simp
theorem before_self {l m : List Atom} (h : pairErr l m = 0) : beforeB l l = true := by
  unfold beforeB; rw [pair_self h, leU_refl]; rfl
theorem before_both {l m : List Atom} (h : pairErr l m = 0) : (beforeB l m && beforeB m l) = decide (l = m) := by
  obtain ⟨h1, h2, h3⟩ := pairErr_ok h
  have hu := units_eq (fine_atoms h1) (fine_atoms h2) h3
  by_cases e : l = m
  · subst e
    rw [before_self h]; simp
  · rw [decide_eq_false e]
    cases hb : (beforeB l m && beforeB m l) with
    | false => rfl
    | true =>
      exfalso
      unfold beforeB at hb
      rw [h, pair_symm h] at hb
      simp at hb
      exact e (atoms_inj h1 h2 (leU_anti hu hb.1 hb.2))

theorem distI_symm (a b : Int) : distI a b = distI b a := by unfold distI; split <;> split <;> omega
theorem distI_self (a : Int) : distI a a = 0 := by unfold distI; split <;> omega
theorem distI_zero {a b : Int} (h : distI a b = 0) : a = b := by unfold distI at h; split at h <;> omega
theorem distI_nonneg (a b : Int) : 0 ≤ distI a b := by unfold distI; split <;> omega
theorem distI_tri (a b c : Int) : distI a c ≤ distI a b + distI b c := by unfold distI; split <;> split <;> split <;> omega
theorem priceV_symm (a b k : Int) : priceV a b k = priceV b a k := by unfold priceV; rw [distI_symm]
theorem priceV_self (a k : Int) : priceV a a k = 0 := by unfold priceV; rw [distI_self]; simp
theorem priceV_nonneg (a b k : Int) : 0 ≤ priceV a b k := by
  unfold priceV; have := distI_nonneg a b
  split
  · exact Int.mul_nonneg this this
  · exact this
theorem priceV_zero {a b k : Int} (h : priceV a b k = 0) : a = b := by
  unfold priceV at h
  split at h
  · rcases Int.mul_eq_zero.1 h with h1 | h1 <;> exact distI_zero h1
  · exact distI_zero h
theorem apartTo_symm (u v : List Int) (k : Int) : ∀ n, apartTo u v k n = apartTo v u k n
  | 0 => rfl
  | n + 1 => by rw [apartTo_succ, apartTo_succ, apartTo_symm u v k n, priceV_symm]
theorem apartTo_self (u : List Int) (k : Int) : ∀ n, apartTo u u k n = 0
  | 0 => rfl
  | n + 1 => by rw [apartTo_succ, apartTo_self u k n, priceV_self]; rfl
theorem apartTo_nonneg (u v : List Int) (k : Int) : ∀ n, 0 ≤ apartTo u v k n
  | 0 => by simp [apartTo]
  | n + 1 => by have := apartTo_nonneg u v k n; have := priceV_nonneg (u[n]?.getD 0) (v[n]?.getD 0) k; rw [apartTo_succ]; omega
theorem apartTo_zero {u v : List Int} {k : Int} : ∀ {n : Nat}, apartTo u v k n = 0 → ∀ j, j < n → u[j]?.getD 0 = v[j]?.getD 0
  | n + 1, h, j, hj => by
    have h1 := apartTo_nonneg u v k n
    have h2 := priceV_nonneg (u[n]?.getD 0) (v[n]?.getD 0) k
    rw [apartTo_succ] at h
    rcases Nat.lt_or_ge j n with h3 | h3
    · exact apartTo_zero (k := k) (by omega) j h3
    · obtain rfl : j = n := by omega
      exact priceV_zero (k := k) (by omega)
theorem apartTo_tri (u v t : List Int) : ∀ n, apartTo u t 1 n ≤ apartTo u v 1 n + apartTo v t 1 n
  | 0 => by simp [apartTo]
  | n + 1 => by
    have ih := apartTo_tri u v t n
    have h := distI_tri (u[n]?.getD 0) (v[n]?.getD 0) (t[n]?.getD 0)
    rw [apartTo_succ, apartTo_succ, apartTo_succ]
    simp only [priceV] at *
    simp only [show ¬ (1 : Int) = 2 by omega, if_false]
    omega
theorem apartErr_ok {l m : List Atom} {k : Int} (h : apartErr l m k = 0) : pairErr l m = 0 ∧ kindB k = true := by
  unfold apartErr at h
  by_cases h1 : pairErr l m = 0
  · rw [if_neg (by simpa using h1)] at h
    by_cases h2 : kindB k = true
    · exact ⟨h1, h2⟩
    · rw [if_neg h2] at h; simp at h
  · rw [if_pos h1] at h; exact absurd h h1
theorem apartErr_mk {l m : List Atom} {k : Int} (h : pairErr l m = 0) (h2 : kindB k = true) : apartErr l m k = 0 := by unfold apartErr; rw [h, h2]; simp
theorem apart_symm {l m : List Atom} {k : Int} (h : apartErr l m k = 0) : apartErr m l k = 0 ∧ apartV m l k = apartV l m k := by
  obtain ⟨h1, h2⟩ := apartErr_ok h
  have h3 := apartErr_mk (pair_symm h1) h2
  obtain ⟨g1, g2, g3⟩ := pairErr_ok h1
  have hu := units_eq (fine_atoms g1) (fine_atoms g2) g3
  refine ⟨h3, ?_⟩
  unfold apartV apartL
  rw [if_pos h, if_pos h3, hu, apartTo_symm]
theorem apart_self {l m : List Atom} {k : Int} (h : apartErr l m k = 0) : apartErr l l k = 0 ∧ apartV l l k = 0 := by
  obtain ⟨h1, h2⟩ := apartErr_ok h
  have h3 := apartErr_mk (pair_self h1) h2
  refine ⟨h3, ?_⟩
  unfold apartV apartL
  rw [if_pos h3, apartTo_self]
theorem apart_pos {l m : List Atom} {k : Int} (h : apartErr l m k = 0) (hne : l ≠ m) : 0 < apartV l m k := by
  obtain ⟨h1, h2⟩ := apartErr_ok h
  obtain ⟨g1, g2, g3⟩ := pairErr_ok h1
  have hu := units_eq (fine_atoms g1) (fine_atoms g2) g3
  have h0 := apartTo_nonneg (unitsL l) (unitsL m) k (unitsL l).length
  have hz : apartTo (unitsL l) (unitsL m) k (unitsL l).length ≠ 0 := fun e => hne (atoms_inj g1 g2 (list_eq hu (apartTo_zero e)))
  unfold apartV apartL
  rw [if_pos h]
  omega
theorem apart_bd {l m : List Atom} (k : Int) : 0 ≤ apartV l m k ∧ apartV l m k ≤ 576000000000000 := by
  unfold apartV
  split
  · rename_i h
    obtain ⟨h1, h2⟩ := apartErr_ok h
    obtain ⟨g1, g2, g3⟩ := pairErr_ok h1
    have hu := units_eq (fine_atoms g1) (fine_atoms g2) g3
    have hb := apartTo_bd (units_in (fine_atoms g1)) (units_in (fine_atoms g2)) k (unitsL l).length (Nat.le_refl _) (by omega)
    have h4 := units_40 (fine_atoms g1)
    unfold apartL
    omega
  · omega
theorem apart_tri {l m n : List Atom} (h1 : apartErr l n 1 = 0) (h2 : apartErr l m 1 = 0) (h3 : apartErr m n 1 = 0) : apartV l n 1 ≤ apartV l m 1 + apartV m n 1 := by
  obtain ⟨a1, -⟩ := apartErr_ok h1
  obtain ⟨a2, -⟩ := apartErr_ok h2
  obtain ⟨g1, g2, g3⟩ := pairErr_ok a2
  have hu := units_eq (fine_atoms g1) (fine_atoms g2) g3
  unfold apartV apartL
  rw [if_pos h1, if_pos h2, if_pos h3, ← hu]
  exact apartTo_tri _ _ _ _
end Go.Proofs.Ytgnjaapjaglleaa
