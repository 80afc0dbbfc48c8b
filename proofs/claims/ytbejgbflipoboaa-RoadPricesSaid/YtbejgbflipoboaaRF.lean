/- Plain words of roads: the fuel that 'ship' and its chains want: measures of their loops. No program in sight. -/
import Derived.Test.YtbejgbflipoboaaRD
namespace Go.Proofs.Ytbejgbflipoboaa
open Go.RowKit

/-- the least number from s on, of n + 1, that has p -/
def leastF (p : Nat → Bool) : Nat → Nat → Nat
  | s, 0 => s
  | s, n + 1 => if p s then s else leastF p (s + 1) n
theorem leastF_spec {p : Nat → Bool} : ∀ (n s m : Nat), s ≤ m → m ≤ s + n → p m = true → p (leastF p s n) = true ∧ leastF p s n ≤ m
  | 0, s, m, h1, h2, h3 => by
    obtain rfl : s = m := by omega
    exact ⟨h3, Nat.le_refl _⟩
  | n + 1, s, m, h1, h2, h3 => by
    unfold leastF
    by_cases h : p s = true
    · rw [if_pos h]; exact ⟨h, h1⟩
    · rw [if_neg h]
      have : s ≠ m := fun e => h (by rw [e]; exact h3)
      exact leastF_spec n (s + 1) m (by omega) (by omega) h3
theorem ship_step {N : Nat} {R : List Road} {F : Nat} {f l : List Int} {r : List Int × List Int} (h : shipF N R F f l = some r) :
    ∃ F', F = F' + 1 ∧ ((bestTo l (reachR N R f (firstL l)).at_ N < 0 ∧ r = (f, l)) ∨
      (¬ bestTo l (reachR N R f (firstL l)).at_ N < 0 ∧ ∃ f' i, chain R (reachR N R f (firstL l)).by_ 20 (bestTo l (reachR N R f (firstL l)).at_ N).toNat f = some (f', i) ∧
        shipF N R F' f' (addAt (addAt l (bestTo l (reachR N R f (firstL l)).at_ N).toNat 1) i (-1)) = some r)) := by
  cases F with
  | zero => simp [shipF] at h
  | succ F' =>
    refine ⟨F', rfl, ?_⟩
    rw [shipF] at h
    by_cases hb : bestTo l (reachR N R f (firstL l)).at_ N < 0
    · rw [if_pos hb] at h
      exact .inl ⟨hb, (Option.some.inj h).symm⟩
    · rw [if_neg hb] at h
      cases hc : chain R (reachR N R f (firstL l)).by_ 20 (bestTo l (reachR N R f (firstL l)).at_ N).toNat f with
      | none => rw [hc] at h; simp at h
      | some q =>
        obtain ⟨f', i⟩ := q
        rw [hc] at h
        exact .inr ⟨hb, f', i, rfl, h⟩
theorem best_no1 {l a : List Int} {k : Nat} (h : ¬ gi l k < 0) : bestTo l a (k + 1) = bestTo l a k := by simp only [bestTo]; rw [if_neg (fun h2 => h h2.1)]
theorem best_no2 {l a : List Int} {k : Nat} (h : ¬ gi a k < 1099511627776) : bestTo l a (k + 1) = bestTo l a k := by simp only [bestTo]; rw [if_neg (fun h2 => h h2.2.1)]
theorem best_yes1 {l a : List Int} {k : Nat} (h1 : gi l k < 0) (h2 : gi a k < 1099511627776) (h3 : bestTo l a k < 0) : bestTo l a (k + 1) = k := by simp only [bestTo]; rw [if_pos ⟨h1, h2, .inl h3⟩]
theorem best_yes2 {l a : List Int} {k p : Nat} (h1 : gi l k < 0) (h2 : gi a k < 1099511627776) (hp : bestTo l a k = p) (h3 : gi a k < gi a p) : bestTo l a (k + 1) = k := by
  simp only [bestTo]; rw [if_pos ⟨h1, h2, .inr (by rw [hp]; exact h3)⟩]
theorem best_no3 {l a : List Int} {k p : Nat} (hp : bestTo l a k = p) (h : ¬ gi a k < gi a p) : bestTo l a (k + 1) = p := by
  simp only [bestTo]; rw [if_neg, hp]
  rintro ⟨_, _, h2 | h2⟩
  · omega
  · rw [hp] at h2; exact h h2
/-- how much fuel ship wants, if it is at most K -/
def fuelOf (N : Nat) (R : List Road) (K : Nat) (f l : List Int) : Nat := leastF (fun F => (shipF N R F f l).isSome) 0 K
theorem fuelOf_dec {N : Nat} {R : List Road} {F K : Nat} {f l f' : List Int} {i : Nat} {r : List Int × List Int} (h : shipF N R F f l = some r) (hF : F ≤ K) (hb : ¬ bestTo l (reachR N R f (firstL l)).at_ N < 0)
    (hc : chain R (reachR N R f (firstL l)).by_ 20 (bestTo l (reachR N R f (firstL l)).at_ N).toNat f = some (f', i)) :
    fuelOf N R K f' (addAt (addAt l (bestTo l (reachR N R f (firstL l)).at_ N).toNat 1) i (-1)) < fuelOf N R K f l := by
  obtain ⟨h1, h2⟩ := leastF_spec (p := fun F => (shipF N R F f l).isSome) K 0 F (by omega) (by omega) (by simp [h])
  obtain ⟨r2, hr2⟩ := Option.isSome_iff_exists.1 h1
  obtain ⟨m, hm, hq⟩ := ship_step hr2
  rcases hq with ⟨hb2, _⟩ | ⟨_, f2, i2, hc2, hs2⟩
  · exact absurd hb2 hb
  · rw [hc] at hc2
    obtain ⟨rfl, rfl⟩ := Prod.mk.inj (Option.some.inj hc2)
    obtain ⟨_, h4⟩ := leastF_spec (p := fun F => (shipF N R F f' (addAt (addAt l (bestTo l (reachR N R f (firstL l)).at_ N).toNat 1) i (-1))).isSome) K 0 m (by omega) (by omega) (by simp [hs2])
    unfold fuelOf
    omega
theorem chain_step {R : List Road} {by_ : List Int} {F i : Nat} {f : List Int} {q : List Int × Nat} (h : chain R by_ F i f = some q) :
    ∃ F', F = F' + 1 ∧ ((gi by_ i = 0 ∧ q = (f, i)) ∨ (gi by_ i ≠ 0 ∧ chain R by_ F' (stFr R (gi by_ i)).toNat (turnF f (gi by_ i)) = some q)) := by
  cases F with
  | zero => simp [chain] at h
  | succ F' =>
    refine ⟨F', rfl, ?_⟩
    rw [chain] at h
    by_cases hb : gi by_ i = 0
    · rw [if_pos hb] at h; exact .inl ⟨hb, (Option.some.inj h).symm⟩
    · rw [if_neg hb] at h; exact .inr ⟨hb, h⟩
theorem chain_free (R : List Road) (by_ : List Int) : ∀ (F i : Nat) (f g : List Int), (chain R by_ F i f).isSome = (chain R by_ F i g).isSome
  | 0, _, _, _ => rfl
  | F + 1, i, f, g => by
    rw [chain, chain]
    split
    · rfl
    · exact chain_free R by_ F _ _ _
/-! bounds along a chain -/
theorem gi_set' (l : List Int) (i j : Nat) (v : Int) : gi (l.set i v) j = if i = j ∧ i < l.length then v else gi l j := by
  by_cases hi : i < l.length
  · rw [gi_set _ _ _ _ hi]
    by_cases h : i = j
    · rw [if_pos h, if_pos ⟨h, hi⟩]
    · rw [if_neg h, if_neg (fun h2 => h h2.1)]
  · rw [if_neg (fun h2 => hi h2.2)]
    unfold gi; rw [List.getElem?_set]
    by_cases h : i = j
    · subst h; rw [if_pos rfl, if_neg hi, List.getElem?_eq_none (by omega)]
    · rw [if_neg h]
theorem gi_addAt' (l : List Int) (i j : Nat) (d : Int) : gi (addAt l i d) j = gi l j ∨ gi (addAt l i d) j = gi l j + d := by
  unfold addAt; rw [gi_set']
  split
  · rename_i h; obtain ⟨rfl, _⟩ := h; exact .inr rfl
  · exact .inl rfl
theorem addAt_bd (l : List Int) (p i j : Nat) : gi l j - 1 ≤ gi (addAt (addAt l p 1) i (-1)) j ∧ gi (addAt (addAt l p 1) i (-1)) j ≤ gi l j + 1 := by
  have h1 := gi_addAt' l p j 1
  have h2 := gi_addAt' (addAt l p 1) i j (-1)
  omega
theorem turnF_bd (f : List Int) (s : Int) (j : Nat) : gi f j - 1 ≤ gi (turnF f s) j ∧ gi (turnF f s) j ≤ gi f j + 1 := by
  unfold turnF addAt
  split <;> rw [gi_set'] <;> split <;> (try (rename_i h; obtain ⟨rfl, _⟩ := h)) <;> omega
theorem chain_bd {R : List Road} {by_ : List Int} : ∀ {F i : Nat} {f f' : List Int} {i' : Nat}, chain R by_ F i f = some (f', i') → f'.length = f.length ∧ ∀ j, gi f j - F ≤ gi f' j ∧ gi f' j ≤ gi f j + F
  | 0, _, _, _, _, h => by simp [chain] at h
  | F + 1, i, f, f', i', h => by
    rw [chain] at h
    by_cases hb : gi by_ i = 0
    · rw [if_pos hb] at h
      obtain ⟨rfl, _⟩ := Prod.mk.inj (Option.some.inj h)
      exact ⟨rfl, fun j => by omega⟩
    · rw [if_neg hb] at h
      obtain ⟨h1, h2⟩ := chain_bd h
      refine ⟨by rw [h1, turnF_length], fun j => ?_⟩
      have := h2 j
      have := turnF_bd f (gi by_ i) j
      omega
theorem chain_in {N : Nat} {R : List Road} {by_ : List Int} (hok : NetOk (N : Int) R) (hby : ∀ i, i < N → gi by_ i = 0 ∨ StepIn R.length (gi by_ i)) : ∀ {F i : Nat} {f f' : List Int} {i' : Nat}, i < N → chain R by_ F i f = some (f', i') → i' < N
  | 0, _, _, _, _, _, h => by simp [chain] at h
  | F + 1, i, f, f', i', hi, h => by
    rw [chain] at h
    by_cases hb : gi by_ i = 0
    · rw [if_pos hb] at h
      obtain ⟨_, rfl⟩ := Prod.mk.inj (Option.some.inj h)
      exact hi
    · rw [if_neg hb] at h
      have hs := (hby i hi).resolve_left hb
      have := stFr_bd hok hs
      exact chain_in hok hby (by omega) h
/-! the steps by which nodes are reached -/
def ByOk (M n : Nat) (st : RS) : Prop := ∀ i, i < M → gi st.by_ i = 0 ∨ StepIn n (gi st.by_ i)
theorem relax_by {M : Nat} {R : List Road} {st : RS} {s : Int} (hs : StepIn R.length s) (h : ByOk M R.length st) : ByOk M R.length (relax R st s) := by
  unfold relax
  split
  · intro i hi
    show gi (st.by_.set _ _) i = 0 ∨ StepIn _ (gi (st.by_.set _ _) i)
    rw [gi_set']
    split
    · exact .inr hs
    · exact h i hi
  · exact h
theorem fold_by {M : Nat} {R : List Road} : ∀ {L : List Int} {st : RS}, (∀ s ∈ L, StepIn R.length s) → ByOk M R.length st → ByOk M R.length (L.foldl (relax R) st)
  | [], _, _, h => h
  | s :: L, st, hL, h => by
    rw [List.foldl_cons]
    exact fold_by (L := L) (fun x hx => hL x (List.mem_cons_of_mem _ hx)) (relax_by (hL s List.mem_cons_self) h)
theorem reachTo_by {M : Nat} {R : List Road} {L : List Int} (hL : ∀ s ∈ L, StepIn R.length s) {st : RS} (h : ByOk M R.length st) : ∀ j, ByOk M R.length (reachTo R L st j)
  | 0 => h
  | j + 1 => fold_by hL (show ByOk M R.length { reachTo R L st j with last := -1 } from reachTo_by hL h j)
theorem reachR_by (M : Nat) (R : List Road) (f first : List Int) : ByOk M R.length (reachR M R f first) :=
  reachTo_by (stepsTo_in R f R.length) (fun i _ => .inl (by show gi (List.replicate M 0) i = 0; unfold gi; rw [List.getElem?_replicate]; split <;> rfl)) M
/-- how long the chain from a node is, if at most K -/
def chainLen (R : List Road) (by_ : List Int) (K i : Nat) : Nat := leastF (fun F => (chain R by_ F i []).isSome) 0 K
theorem chainLen_dec {R : List Road} {by_ : List Int} {F K i : Nat} {f : List Int} {q : List Int × Nat} (h : chain R by_ F i f = some q) (hF : F ≤ K) (hb : gi by_ i ≠ 0) : chainLen R by_ K (stFr R (gi by_ i)).toNat < chainLen R by_ K i := by
  obtain ⟨h1, h2⟩ := leastF_spec (p := fun F => (chain R by_ F i []).isSome) K 0 F (by omega) (by omega) (by rw [chain_free R by_ F i [] f, h]; rfl)
  obtain ⟨r2, hr2⟩ := Option.isSome_iff_exists.1 h1
  obtain ⟨m, hm, hq⟩ := chain_step hr2
  rcases hq with ⟨hb2, _⟩ | ⟨_, hs2⟩
  · exact absurd hb2 hb
  · obtain ⟨_, h4⟩ := leastF_spec (p := fun F => (chain R by_ F (stFr R (gi by_ i)).toNat []).isSome) K 0 m (by omega) (by omega) (by rw [chain_free R by_ m _ [] (turnF [] (gi by_ i)), hs2]; rfl)
    unfold chainLen
    omega
end Go.Proofs.Ytbejgbflipoboaa
