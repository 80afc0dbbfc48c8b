/- Lists of atoms collected from ascending places. -/
import Derived.Test.YtgnjaapjaglleaaP7
namespace Go.Proofs.Ytgnjaapjaglleaa

theorem addU_last (init : List Atom) (x : Atom) (p : Int) : addU (init ++ [x]) p = if x.p = p then init ++ [{ x with m := x.m + 1 }] else init ++ [x] ++ [⟨p, 1⟩] := by
  by_cases h : x.p = p
  · rw [if_pos h]
    obtain ⟨q, m⟩ := x
    simp only at h
    subst h
    exact addU_snoc init q m
  · rw [if_neg h]
    exact addU_new fun y hy => by simp [List.getLast?_append] at hy; rw [← hy]; exact h
theorem units_app (l k : List Atom) : unitsL (l ++ k) = unitsL l ++ unitsL k := by simp [unitsL]
theorem units_one (p m : Int) : unitsL [⟨p, m⟩] = List.replicate m.toNat p := by simp [unitsL]
/-- ascending -/
def Asc (U : List Int) : Prop := ∀ j, j + 1 < U.length → gi U j ≤ gi U (j + 1)
theorem Asc.le {U : List Int} (h : Asc U) {i : Nat} : ∀ d, i + d < U.length → gi U i ≤ gi U (i + d)
  | 0, _ => Int.le_refl _
  | d + 1, hd => Int.le_trans (h.le d (by omega)) (h (i + d) (by omega))
/-- how often the next one of the first n + 1 differs -/
def chgN (U : List Int) : Nat → Nat
  | 0 => 0
  | n + 1 => chgN U n + if gi U n = gi U (n + 1) then 0 else 1
structure Coll (U : List Int) (k : Nat) (init : List Atom) (x : Atom) : Prop where
  eq : collectL (U.take k) = init ++ [x]
  last : x.p = gi U (k - 1)
  len : init.length = chgN U (k - 1)
  mass : ∀ y, y ∈ init ++ [x] → 1 ≤ y.m
  units : unitsL (init ++ [x]) = U.take k
  place : ∀ y, y ∈ init ++ [x] → ∃ j, j < k ∧ y.p = gi U j
theorem coll_step {U : List Int} {k : Nat} {init : List Atom} {x : Atom} (h : Coll U (k + 1) init x) (hk : k + 1 < U.length) : ∃ i' x', Coll U (k + 2) i' x' ∧ ((gi U k = gi U (k + 1) ∧ i' = init ∧ x' = { x with m := x.m + 1 }) ∨ (gi U k ≠ gi U (k + 1) ∧ i' = init ++ [x] ∧ x' = ⟨gi U (k + 1), 1⟩)) := by
  have e := collect_take hk
  rw [h.eq, addU_last] at e
  have hl := h.last
  rw [Nat.add_sub_cancel] at hl
  have hu := h.units
  have hm : 1 ≤ x.m := h.mass x (by simp)
  have ht : U.take (k + 2) = U.take (k + 1) ++ [gi U (k + 1)] := by
    rw [List.take_succ_eq_append_getElem hk, gi_at, List.getElem?_eq_getElem hk, Option.getD_some]
  by_cases hc : gi U k = gi U (k + 1)
  · rw [if_pos (by rw [hl, hc]; rfl)] at e
    refine ⟨init, { x with m := x.m + 1 }, ⟨e, ?_, ?_, ?_, ?_, ?_⟩, .inl ⟨hc, rfl, rfl⟩⟩
    · show x.p = _; rw [hl, hc]; rfl
    · rw [h.len]; show chgN U k = chgN U (k + 1); simp [chgN, hc]
    · intro y hy
      rcases List.mem_append.1 hy with h1 | h1
      · exact h.mass y (List.mem_append_left _ h1)
      · simp at h1; rw [h1]; simp only; omega
    · rw [units_app, units_one, show (x.m + 1).toNat = x.m.toNat + 1 by omega, List.replicate_succ', ← List.append_assoc, ht, ← hu, units_app, ← units_one, ← hc, ← hl]
    · intro y hy
      rcases List.mem_append.1 hy with h1 | h1
      · obtain ⟨j, hj, e2⟩ := h.place y (List.mem_append_left _ h1); exact ⟨j, by omega, e2⟩
      · simp at h1; rw [h1]; exact ⟨k, by omega, hl⟩
  · rw [if_neg (by rw [hl]; exact hc)] at e
    refine ⟨init ++ [x], ⟨gi U (k + 1), 1⟩, ⟨e, rfl, ?_, ?_, ?_, ?_⟩, .inr ⟨hc, rfl, rfl⟩⟩
    · rw [List.length_append, h.len]; show chgN U k + 1 = chgN U (k + 1); simp [chgN, hc]
    · intro y hy
      rcases List.mem_append.1 hy with h1 | h1
      · exact h.mass y h1
      · simp at h1; rw [h1]; simp
    · rw [units_app, hu, units_one, ht]; rfl
    · intro y hy
      rcases List.mem_append.1 hy with h1 | h1
      · obtain ⟨j, hj, e2⟩ := h.place y h1; exact ⟨j, by omega, e2⟩
      · simp at h1; rw [h1]; exact ⟨k + 1, by omega, rfl⟩
theorem coll_all (U : List Int) : ∀ k, k + 1 ≤ U.length → ∃ init x, Coll U (k + 1) init x
  | 0, hk => by
    have e := collect_take (l := U) (k := 0) (by omega)
    rw [show collectL (U.take 0) = [] by rfl, addU_first] at e
    refine ⟨[], ⟨gi U 0, 1⟩, ⟨e, rfl, rfl, by simp, ?_, by simp⟩⟩
    rw [List.nil_append, units_one, List.take_succ_eq_append_getElem (by omega), gi_at, List.getElem?_eq_getElem (by omega), Option.getD_some]; rfl
  | k + 1, hk => by
    obtain ⟨i, x, h⟩ := coll_all U k (by omega)
    obtain ⟨i', x', h', _⟩ := coll_step h (by omega)
    exact ⟨i', x', h'⟩
theorem coll_end {U : List Int} (h : 0 < U.length) : ∃ init x, collectL U = init ++ [x] ∧ Coll U U.length init x := by
  obtain ⟨i, x, hc⟩ := coll_all U (U.length - 1) (by omega)
  rw [show U.length - 1 + 1 = U.length by omega] at hc
  have := hc.eq
  rw [List.take_length] at this
  exact ⟨i, x, this, hc⟩
theorem collect_nil : collectL [] = [] := rfl
theorem units_collect (U : List Int) : unitsL (collectL U) = U := by
  rcases Nat.eq_zero_or_pos U.length with h | h
  · rw [List.eq_nil_of_length_eq_zero h]; rfl
  · obtain ⟨i, x, e, hc⟩ := coll_end h
    rw [e, hc.units, List.take_length]
theorem collect_len (U : List Int) : (collectL U).length ≤ chgN U (U.length - 1) + 1 := by
  rcases Nat.eq_zero_or_pos U.length with h | h
  · rw [List.eq_nil_of_length_eq_zero h, collect_nil]; simp
  · obtain ⟨i, x, e, hc⟩ := coll_end h
    rw [e, List.length_append, hc.len]; simp
theorem collect_len_eq {U : List Int} (h : 0 < U.length) : (collectL U).length = chgN U (U.length - 1) + 1 := by
  obtain ⟨i, x, e, hc⟩ := coll_end h
  rw [e, List.length_append, hc.len]; simp
theorem collect_place {U : List Int} {y : Atom} (hy : y ∈ collectL U) : ∃ j, j < U.length ∧ y.p = gi U j := by
  rcases Nat.eq_zero_or_pos U.length with h | h
  · rw [List.eq_nil_of_length_eq_zero h, collect_nil] at hy; simp at hy
  · obtain ⟨i, x, e, hc⟩ := coll_end h
    rw [e] at hy; exact hc.place y hy
theorem collect_pos {U : List Int} {y : Atom} (hy : y ∈ collectL U) : 1 ≤ y.m := by
  rcases Nat.eq_zero_or_pos U.length with h | h
  · rw [List.eq_nil_of_length_eq_zero h, collect_nil] at hy; simp at hy
  · obtain ⟨i, x, e, hc⟩ := coll_end h
    rw [e] at hy; exact hc.mass y hy
theorem coll_asc {U : List Int} (hU : Asc U) : ∀ k, k + 1 ≤ U.length → ∃ init x, Coll U (k + 1) init x ∧ (init ++ [x]).Pairwise (fun a b => a.p < b.p)
  | 0, hk => by
    obtain ⟨i, x, h⟩ := coll_all U 0 hk
    have hl := h.len
    simp [chgN] at hl
    subst hl
    exact ⟨[], x, h, by simp⟩
  | k + 1, hk => by
    obtain ⟨i, x, h, hp⟩ := coll_asc hU k (by omega)
    obtain ⟨i', x', h', h2⟩ := coll_step h (by omega)
    refine ⟨i', x', h', ?_⟩
    rcases h2 with ⟨e, rfl, rfl⟩ | ⟨e, rfl, rfl⟩
    · rw [List.pairwise_append] at hp ⊢
      refine ⟨hp.1, by simp, fun a ha b hb => ?_⟩
      simp at hb; rw [hb]
      exact hp.2.2 a ha x (by simp)
    · rw [List.pairwise_append]
      refine ⟨hp, by simp, fun a ha b hb => ?_⟩
      simp at hb; rw [hb]
      have hl := h.last
      rw [Nat.add_sub_cancel] at hl
      have hlt : gi U k < gi U (k + 1) := by have := hU k (by omega); omega
      have hax : a.p ≤ x.p := by
        rcases List.mem_append.1 ha with h3 | h3
        · exact Int.le_of_lt ((List.pairwise_append.1 hp).2.2 a h3 x (by simp))
        · simp at h3; rw [h3]; exact Int.le_refl _
      show a.p < gi U (k + 1)
      omega
theorem collect_asc {U : List Int} (hU : Asc U) : (collectL U).Pairwise (fun a b => a.p < b.p) := by
  rcases Nat.eq_zero_or_pos U.length with h | h
  · rw [List.eq_nil_of_length_eq_zero h, collect_nil]; simp
  · obtain ⟨i, x, hc, hp⟩ := coll_asc hU (U.length - 1) (by omega)
    rw [show U.length - 1 + 1 = U.length by omega] at hc
    have := hc.eq
    rw [List.take_length] at this
    rw [this]; exact hp
/-- what makes a list of atoms right -/
theorem isListB_of {P M : Int} {l : List Atom} (h1 : ∀ y, y ∈ l → (-P ≤ y.p ∧ y.p ≤ P) ∧ (1 ≤ y.m ∧ y.m ≤ M)) (h2 : l.Pairwise (fun a b => a.p < b.p)) : isListB P M l = true := by
  refine isListB_yes fun j hj => ?_
  obtain ⟨a, b⟩ := h1 _ (List.getElem_mem hj)
  cases j with
  | zero => exact goodAt_zero hj (withinB_iff.2 a) (withinB_iff.2 b)
  | succ j => exact goodAt_up hj (withinB_iff.2 a) (withinB_iff.2 b) (List.pairwise_iff_getElem.1 h2 j (j + 1) (by omega) hj (by omega))
theorem isListB_pw {P M : Int} {l : List Atom} (h : isListB P M l = true) : l.Pairwise (fun a b => a.p < b.p) := by
  rw [List.pairwise_iff_getElem]
  intro i j hi hj hij
  have step : ∀ k, (hk : k + 1 < l.length) → (l[k]'(by omega)).p < l[k + 1].p := fun k hk => by
    have := (goodAt_spec hk (isListB_at h hk)).2.2 (by omega)
    rw [Nat.add_sub_cancel, atK_at (by omega)] at this
    exact this
  have : ∀ d, (hd : i + 1 + d < l.length) → l[i].p < (l[i + 1 + d]).p := fun d => by
    induction d with
    | zero => intro hd; exact step i hd
    | succ d ih => intro hd; exact Int.lt_trans (ih (by omega)) (step (i + 1 + d) hd)
  have e := this (j - (i + 1)) (by omega)
  simp only [show i + 1 + (j - (i + 1)) = j by omega] at e
  exact e
theorem isListB_mem {P M : Int} {l : List Atom} (h : isListB P M l = true) {y : Atom} (hy : y ∈ l) : (-P ≤ y.p ∧ y.p ≤ P) ∧ (1 ≤ y.m ∧ y.m ≤ M) := by
  obtain ⟨j, hj, rfl⟩ := List.getElem_of_mem hy
  have := goodAt_spec hj (isListB_at h hj)
  exact ⟨this.1, this.2.1⟩
/-- a list collected from ascending places -/
theorem collect_valid {U : List Int} {P M : Int} {n : Nat} (hU : Asc U) (hp : ∀ j, j < U.length → -P ≤ gi U j ∧ gi U j ≤ P) (hm : ∀ y, y ∈ collectL U → y.m ≤ M) (hn : (collectL U).length ≤ n) : listErr n P M (collectL U) = 0 := by
  have : isListB P M (collectL U) = true := isListB_of (fun y hy => by
    obtain ⟨j, hj, e⟩ := collect_place hy
    exact ⟨by rw [e]; exact hp j hj, collect_pos hy, hm y hy⟩) (collect_asc hU)
  unfold listErr; rw [if_neg (by omega), this]; rfl
theorem collect_total (U : List Int) : totalL (collectL U) = U.length := by
  have : ∀ l : List Atom, (∀ y, y ∈ l → 1 ≤ y.m) → ((unitsL l).length : Int) = totalL l := fun l => by
    induction l with
    | nil => intro _; rfl
    | cons y l ih =>
      intro h
      have h1 := ih (fun z hz => h z (List.mem_cons_of_mem _ hz))
      have h2 := h y (by simp)
      have e : unitsL (y :: l) = List.replicate y.m.toNat y.p ++ unitsL l := by simp [unitsL]
      rw [e, List.length_append, List.length_replicate]
      have e2 : totalL (y :: l) = y.m + totalL l := by simp [totalL]
      rw [e2]; omega
  rw [← this _ (fun y hy => collect_pos hy), units_collect]
theorem collect_mass_le {U : List Int} {y : Atom} (hy : y ∈ collectL U) : y.m ≤ U.length := by
  have h := (collect_mass U U.length (Nat.le_refl _)).2
  rw [List.take_length] at h
  obtain ⟨j, hj, rfl⟩ := List.getElem_of_mem hy
  exact (h j hj).2
/-- the changes of a list of units are fewer than its atoms -/
theorem chg_units {P M : Int} {l : List Atom} (h : isListB P M l = true) : chgN (unitsL l) ((unitsL l).length - 1) ≤ l.length - 1 := by
  rcases Nat.eq_zero_or_pos (unitsL l).length with h0 | h0
  · rw [h0]; simp [chgN]
  · have := collect_len_eq h0
    rw [collect_units h] at this
    omega
theorem units_asc {P M : Int} {l : List Atom} (h : isListB P M l = true) : Asc (unitsL l) := by
  have key : ∀ k, k ≤ l.length → Asc (unitsL (l.take k)) ∧ ∀ j, j < (unitsL (l.take k)).length → ∀ q, (hq : q < l.length) → k ≤ q → gi (unitsL (l.take k)) j < l[q].p := fun k => by
    induction k with
    | zero => intro _; simp [unitsL, Asc]
    | succ k ih =>
      intro hk
      obtain ⟨h1, h2⟩ := ih (by omega)
      have pw := List.pairwise_iff_getElem.1 (isListB_pw h)
      have e : unitsL (l.take (k + 1)) = unitsL (l.take k) ++ List.replicate l[k].m.toNat l[k].p := by
        rw [List.take_succ_eq_append_getElem (by omega), units_app]; simp [unitsL]
      rw [e]
      generalize unitsL (l.take k) = V at *
      have ga : ∀ j, j < V.length → gi (V ++ List.replicate l[k].m.toNat l[k].p) j = gi V j := fun j hj => by
        simp only [gi]; rw [List.getElem?_append_left hj]
      have gb : ∀ j, V.length ≤ j → j < (V ++ List.replicate l[k].m.toNat l[k].p).length → gi (V ++ List.replicate l[k].m.toNat l[k].p) j = l[k].p := fun j hj hj2 => by
        simp only [List.length_append, List.length_replicate] at hj2
        simp only [gi]; rw [List.getElem?_append_right hj, List.getElem?_replicate, if_pos (by omega)]; rfl
      refine ⟨fun j hj => ?_, fun j hj q hq hkq => ?_⟩
      · rcases Nat.lt_or_ge (j + 1) V.length with h3 | h3
        · rw [ga j (by omega), ga (j + 1) h3]; exact h1 j h3
        · rw [gb (j + 1) h3 hj]
          rcases Nat.lt_or_ge j V.length with h4 | h4
          · rw [ga j h4]; exact Int.le_of_lt (h2 j h4 k (by omega) (Nat.le_refl _))
          · rw [gb j h4 (by omega)]; exact Int.le_refl _
      · rcases Nat.lt_or_ge j V.length with h4 | h4
        · rw [ga j h4]; exact h2 j h4 q hq (by omega)
        · rw [gb j h4 hj]; exact pw k q (by omega) hq (by omega)
  have := (key l.length (Nat.le_refl _)).1
  rwa [List.take_length] at this
end Go.Proofs.Ytgnjaapjaglleaa
