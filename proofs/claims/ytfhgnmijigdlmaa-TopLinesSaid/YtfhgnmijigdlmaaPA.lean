/- Plain words of lines: lists of atoms, their errors, totals, units, distances, areas. No program in sight. -/
import Derived.Test.YtfhgnmijigdlmaaRecs
import Derived.Test.YtfhgnmijigdlmaaBlk
namespace Go.Proofs.Ytfhgnmijigdlmaa
open Go.RowKit
def atK (l : List Atom) (i : Nat) : Atom := l[i]?.getD default
def goodAt (P M : Int) (l : List Atom) (i : Nat) : Bool :=
  withinB (atK l i).p (-P) P && (withinB (atK l i).m 1 M && (decide (i = 0) || decide ((atK l (i - 1)).p < (atK l i).p)))
def isListB (P M : Int) (l : List Atom) : Bool := (List.range l.length).all (goodAt P M l)
theorem atK_at {l : List Atom} {i : Nat} (h : i < l.length) : atK l i = l[i] := by simp [atK, h]
theorem isListB_no {P M : Int} {l : List Atom} {k : Nat} (hk : k < l.length) (h : goodAt P M l k = false) : isListB P M l = false := by
  unfold isListB; rw [List.all_eq_false]; exact ⟨k, List.mem_range.2 hk, by simp [h]⟩
theorem isListB_yes {P M : Int} {l : List Atom} (h : ∀ j, j < l.length → goodAt P M l j = true) : isListB P M l = true := by
  unfold isListB; rw [List.all_eq_true]; exact fun j hj => h j (List.mem_range.1 hj)
theorem isListB_at {P M : Int} {l : List Atom} (h : isListB P M l = true) {k : Nat} (hk : k < l.length) : goodAt P M l k = true := by
  unfold isListB at h; rw [List.all_eq_true] at h; exact h k (List.mem_range.2 hk)
theorem goodAt_place {P M : Int} {l : List Atom} {k : Nat} (hk : k < l.length) (h : withinB l[k].p (-P) P = false) : goodAt P M l k = false := by
  unfold goodAt; rw [atK_at hk, h]; rfl
theorem goodAt_mass {P M : Int} {l : List Atom} {k : Nat} (hk : k < l.length) (h : withinB l[k].m 1 M = false) : goodAt P M l k = false := by
  unfold goodAt; rw [atK_at hk, h]; simp
theorem goodAt_down {P M : Int} {l : List Atom} {k : Nat} (hk : k + 1 < l.length) (h : l[k + 1].p ≤ l[k].p) : goodAt P M l (k + 1) = false := by
  unfold goodAt; rw [atK_at hk, Nat.add_sub_cancel, atK_at (show k < l.length by omega)]
  have : decide (l[k].p < l[k + 1].p) = false := by simp; omega
  rw [this]; simp
theorem goodAt_zero {P M : Int} {l : List Atom} (hk : 0 < l.length) (h1 : withinB l[0].p (-P) P = true) (h2 : withinB l[0].m 1 M = true) : goodAt P M l 0 = true := by
  unfold goodAt; rw [atK_at hk, h1, h2]; rfl
theorem goodAt_up {P M : Int} {l : List Atom} {k : Nat} (hk : k + 1 < l.length) (h1 : withinB l[k + 1].p (-P) P = true) (h2 : withinB l[k + 1].m 1 M = true) (h : l[k].p < l[k + 1].p) : goodAt P M l (k + 1) = true := by
  unfold goodAt; rw [atK_at hk, Nat.add_sub_cancel, atK_at (show k < l.length by omega), h1, h2]; simp [h]
theorem goodAt_spec {P M : Int} {l : List Atom} {k : Nat} (hk : k < l.length) (h : goodAt P M l k = true) : (-P ≤ l[k].p ∧ l[k].p ≤ P) ∧ (1 ≤ l[k].m ∧ l[k].m ≤ M) ∧ (0 < k → (atK l (k - 1)).p < l[k].p) := by
  unfold goodAt at h; rw [atK_at hk] at h
  simp only [Bool.and_eq_true, Bool.or_eq_true, decide_eq_true_eq] at h
  exact ⟨withinB_iff.1 h.1, withinB_iff.1 h.2.1, fun h0 => h.2.2.resolve_left (by omega)⟩
/-- the first error of a list of atoms: at most n of them, places up to P, masses up to M -/
def listErr (n : Nat) (P M : Int) (l : List Atom) : Int := if n < l.length then 3 else if isListB P M l then 0 else 1
def valAtoms (l : List Atom) : Int := listErr 40 60000 1000 l
def valLoad (l : List Atom) : Int := listErr 6 1000 30 l
def totalL (l : List Atom) : Int := (l.map (·.m)).sum
theorem listErr_ok {n : Nat} {P M : Int} {l : List Atom} (h : listErr n P M l = 0) : l.length ≤ n ∧ isListB P M l = true := by
  unfold listErr at h
  split at h
  · simp at h
  · split at h
    · exact ⟨by omega, by assumption⟩
    · simp at h
theorem take_sum (l : List Atom) {k : Nat} (hk : k < l.length) : totalL (l.take (k + 1)) = totalL (l.take k) + l[k].m := by
  unfold totalL
  rw [List.take_succ_eq_append_getElem hk, List.map_append, List.sum_append]; simp
theorem total_bd {P M : Int} {l : List Atom} (hM : 0 ≤ M) (h : isListB P M l = true) : ∀ k, k ≤ l.length → 0 ≤ totalL (l.take k) ∧ totalL (l.take k) ≤ k * M
  | 0, _ => by simp [totalL]
  | k + 1, hk => by
    have h1 := total_bd hM h k (by omega)
    have h2 := goodAt_spec (by omega) (isListB_at h (show k < l.length by omega))
    rw [take_sum l (by omega)]
    have e : ((k + 1 : Nat) : Int) * M = k * M + M := by rw [show ((k + 1 : Nat) : Int) = (k : Int) + 1 by omega, Int.add_mul, Int.one_mul]
    omega
def kindB (k : Int) : Bool := k == 1 || k == 2
/-- a list of atoms that is not too large to add up -/
def Fine (l : List Atom) : Prop := l.length ≤ 40 ∧ ∀ j, (hj : j < l.length) → (-60000 ≤ l[j].p ∧ l[j].p ≤ 60000) ∧ (1 ≤ l[j].m ∧ l[j].m ≤ 1000)
theorem fine_atoms {l : List Atom} (h : valAtoms l = 0) : Fine l := by
  obtain ⟨h1, h2⟩ := listErr_ok h
  exact ⟨h1, fun j hj => by have := goodAt_spec hj (isListB_at h2 hj); omega⟩
theorem fine_load {l : List Atom} (h : valLoad l = 0) : Fine l := by
  obtain ⟨h1, h2⟩ := listErr_ok h
  exact ⟨by omega, fun j hj => by have := goodAt_spec hj (isListB_at h2 hj); omega⟩
theorem fine_bd {l : List Atom} (h : Fine l) : ∀ k, k ≤ l.length → 0 ≤ totalL (l.take k) ∧ totalL (l.take k) ≤ k * 1000
  | 0, _ => by simp [totalL]
  | k + 1, hk => by
    have h1 := fine_bd h k (by omega)
    have h2 := h.2 k (by omega)
    rw [take_sum l (by omega)]
    omega
theorem fine_total {l : List Atom} (h : Fine l) : 0 ≤ totalL l ∧ totalL l ≤ 40000 := by
  have h1 := fine_bd h l.length (Nat.le_refl _)
  rw [List.take_length] at h1
  have := h.1
  omega
def pairErr (l m : List Atom) : Int := if valAtoms l ≠ 0 then valAtoms l else if valAtoms m ≠ 0 then valAtoms m else if totalL l ≠ totalL m then 5 else 0
theorem pairErr_ok {l m : List Atom} (h : pairErr l m = 0) : valAtoms l = 0 ∧ valAtoms m = 0 ∧ totalL l = totalL m := by
  unfold pairErr at h
  by_cases h1 : valAtoms l = 0
  · rw [if_neg (by simpa using h1)] at h
    by_cases h2 : valAtoms m = 0
    · rw [if_neg (by simpa using h2)] at h
      by_cases h3 : totalL l = totalL m
      · exact ⟨h1, h2, h3⟩
      · rw [if_pos h3] at h; simp at h
    · rw [if_pos h2] at h; exact absurd h h2
  · rw [if_pos h1] at h; exact absurd h h1
def unitsL (l : List Atom) : List Int := l.flatMap fun x => List.replicate x.m.toNat x.p
/-- the units of the first k atoms, and q units of the next one -/
def un (l : List Atom) (k q : Nat) : List Int := unitsL (l.take k) ++ List.replicate q (atK l k).p
theorem un_zero (l : List Atom) : un l 0 0 = [] := by simp [un, unitsL]
theorem un_succ {l : List Atom} {k : Nat} (hk : k < l.length) (q : Nat) : un l k (q + 1) = un l k q ++ [l[k].p] := by
  unfold un; rw [List.replicate_succ', atK_at hk, List.append_assoc]
theorem un_next {l : List Atom} {k : Nat} (hk : k < l.length) : un l k l[k].m.toNat = un l (k + 1) 0 := by
  unfold un unitsL; rw [atK_at hk, List.take_succ_eq_append_getElem hk, List.flatMap_append]; simp
theorem un_end (l : List Atom) : un l l.length 0 = unitsL l := by simp [un]
theorem units_length {l : List Atom} (h : Fine l) : ∀ k, k ≤ l.length → ((unitsL (l.take k)).length : Int) = totalL (l.take k)
  | 0, _ => by simp [unitsL, totalL]
  | k + 1, hk => by
    have ih := units_length h k (by omega)
    have hm := h.2 k (by omega)
    have e : unitsL (l.take (k + 1)) = unitsL (l.take k) ++ List.replicate l[k].m.toNat l[k].p := by
      unfold unitsL; rw [List.take_succ_eq_append_getElem (by omega), List.flatMap_append]; simp
    rw [e, take_sum l (by omega), List.length_append, List.length_replicate]
    omega
theorem units_len {l : List Atom} (h : Fine l) : ((unitsL l).length : Int) = totalL l := by
  have := units_length h l.length (Nat.le_refl _)
  rwa [List.take_length] at this
theorem un_len {l : List Atom} (h : Fine l) {k : Nat} (hk : k < l.length) {q : Nat} (hq : q ≤ l[k].m.toNat) : (un l k q).length ≤ 40000 := by
  have h1 := units_length h k (by omega)
  have h2 := fine_bd h k (by omega)
  have h3 := h.2 k hk
  have h4 := h.1
  unfold un; rw [List.length_append, List.length_replicate]
  omega
def distI (a b : Int) : Int := if a ≤ b then b - a else a - b
def priceV (a b k : Int) : Int := if k = 2 then distI a b * distI a b else distI a b
/-- the sum of the prices of the first n pairs -/
def apartTo (u v : List Int) (k : Int) (n : Nat) : Int := ((List.range n).map fun i => priceV (u[i]?.getD 0) (v[i]?.getD 0) k).sum
theorem apartTo_succ (u v : List Int) (k : Int) (n : Nat) : apartTo u v k (n + 1) = apartTo u v k n + priceV (u[n]?.getD 0) (v[n]?.getD 0) k := by
  unfold apartTo; rw [List.range_succ, List.map_append, List.sum_append]; simp
theorem distI_bd {a b : Int} {A : Int} (ha : -A ≤ a ∧ a ≤ A) (hb : -A ≤ b ∧ b ≤ A) : 0 ≤ distI a b ∧ distI a b ≤ 2 * A := by
  unfold distI; split <;> omega
theorem priceV_bd {a b : Int} (ha : -60000 ≤ a ∧ a ≤ 60000) (hb : -60000 ≤ b ∧ b ≤ 60000) (k : Int) : 0 ≤ priceV a b k ∧ priceV a b k ≤ 14400000000 := by
  have h := distI_bd ha hb
  unfold priceV
  split
  · exact ⟨Int.mul_nonneg h.1 h.1, by have := Int.mul_le_mul h.2 h.2 h.1 (by omega); omega⟩
  · omega
theorem apartTo_bd {u v : List Int} (hu : ∀ j, j < u.length → -60000 ≤ u[j]?.getD 0 ∧ u[j]?.getD 0 ≤ 60000) (hv : ∀ j, j < v.length → -60000 ≤ v[j]?.getD 0 ∧ v[j]?.getD 0 ≤ 60000) (k : Int) :
    ∀ n, n ≤ u.length → n ≤ v.length → 0 ≤ apartTo u v k n ∧ apartTo u v k n ≤ n * 14400000000
  | 0, _, _ => by simp [apartTo]
  | n + 1, h1, h2 => by
    have h := apartTo_bd hu hv k n (by omega) (by omega)
    have p := priceV_bd (hu n (by omega)) (hv n (by omega)) k
    rw [apartTo_succ]
    omega
def apartL (l m : List Atom) (k : Int) : Int := apartTo (unitsL l) (unitsL m) k (unitsL l).length
theorem units_eq {l m : List Atom} (hl : Fine l) (hm : Fine m) (ht : totalL l = totalL m) : (unitsL l).length = (unitsL m).length := by
  have h1 := units_len hl
  have h2 := units_len hm
  omega
def apartErr (l m : List Atom) (k : Int) : Int := if pairErr l m ≠ 0 then pairErr l m else if kindB k then 0 else 1
def apartV (l m : List Atom) (k : Int) : Int := if apartErr l m k = 0 then apartL l m k else 0
structure OkLoads (ll : List (List Atom)) : Prop where
  pos : 1 ≤ ll.length
  five : ll.length ≤ 5
  load : ∀ j, (hj : j < ll.length) → valLoad ll[j] = 0
  fit : ∀ j, (hj : j < ll.length) → totalL ll[j] = totalL ll[0]
theorem load_total {l : List Atom} (h : valLoad l = 0) : 0 ≤ totalL l ∧ totalL l ≤ 180 := by
  obtain ⟨h1, h2⟩ := listErr_ok h
  have h3 := total_bd (by omega) h2 l.length (Nat.le_refl _)
  rw [List.take_length] at h3
  omega
theorem OkLoads.fine {ll : List (List Atom)} (h : OkLoads ll) {j : Nat} (hj : j < ll.length) : Fine ll[j] := fine_load (h.load j hj)
theorem OkLoads.units {ll : List (List Atom)} (h : OkLoads ll) {j : Nat} (hj : j < ll.length) : ((unitsL ll[j]).length : Int) = totalL ll[0] := by
  rw [units_len (h.fine hj), h.fit j hj]
/-- one more unit at place p -/
def addU (out : List Atom) (p : Int) : List Atom :=
  match out.getLast? with
  | some x => if x.p = p then out.set (out.length - 1) { x with m := x.m + 1 } else out ++ [⟨p, 1⟩]
  | none => out ++ [⟨p, 1⟩]
def collectL (l : List Int) : List Atom := l.foldl addU []
/-- f 0 + .. + f (n - 1) -/
def sumR (f : Nat → Int) : Nat → Int
  | 0 => 0
  | n + 1 => sumR f n + f n
def gi (l : List Int) (i : Nat) : Int := l[i]?.getD 0
theorem sumR_bd {f : Nat → Int} {n : Nat} {A B : Int} (h : ∀ i, i < n → A ≤ f i ∧ f i ≤ B) : ∀ k, k ≤ n → k * A ≤ sumR f k ∧ sumR f k ≤ k * B
  | 0, _ => by simp [sumR]
  | k + 1, hk => by
    have ih := sumR_bd h k (by omega)
    have h1 := h k (by omega)
    have e1 : ((k + 1 : Nat) : Int) * A = k * A + A := by rw [show ((k + 1 : Nat) : Int) = (k : Int) + 1 by omega, Int.add_mul, Int.one_mul]
    have e2 : ((k + 1 : Nat) : Int) * B = k * B + B := by rw [show ((k + 1 : Nat) : Int) = (k : Int) + 1 by omega, Int.add_mul, Int.one_mul]
    simp only [sumR]
    omega
theorem gi_at (l : List Int) (i : Nat) : gi l i = l[i]?.getD 0 := rfl
theorem sumR_congr {f g : Nat → Int} {n : Nat} (h : ∀ i, i < n → f i = g i) : ∀ k, k ≤ n → sumR f k = sumR g k
  | 0, _ => rfl
  | k + 1, hk => by simp only [sumR]; rw [sumR_congr h k (by omega), h k (by omega)]
theorem sumR_add (f g : Nat → Int) : ∀ k, sumR (fun i => f i + g i) k = sumR f k + sumR g k
  | 0 => by simp [sumR]
  | k + 1 => by simp only [sumR]; rw [sumR_add f g k]; omega
theorem mulbd {a b A B : Int} (ha : -A ≤ a ∧ a ≤ A) (hb : -B ≤ b ∧ b ≤ B) : -(A * B) ≤ a * b ∧ a * b ≤ A * B := by
  have hA : 0 ≤ A := by omega
  have hB : 0 ≤ B := by omega
  have h1 : (a * b).natAbs ≤ (A * B).natAbs := by
    rw [Int.natAbs_mul, Int.natAbs_mul]; exact Nat.mul_le_mul (by omega) (by omega)
  have h2 : 0 ≤ A * B := Int.mul_nonneg hA hB
  omega
theorem sq_nonneg' (a : Int) : 0 ≤ a * a := by
  rcases Int.le_total 0 a with h | h
  · exact Int.mul_nonneg h h
  · exact Int.mul_nonneg_of_nonpos_of_nonpos h h
/-- a fraction in lowest terms; d above 0 -/
def ratN (n d : Int) : Int := n.tdiv (Int.gcd n d)
def ratD (n d : Int) : Int := d.tdiv (Int.gcd n d)
theorem gcd_step (a b : Int) : Int.gcd b (a.tmod b) = Int.gcd a b := by
  rw [Int.gcd, Int.gcd, Int.natAbs_tmod, Nat.gcd_comm a.natAbs b.natAbs, Nat.gcd_rec b.natAbs a.natAbs, Nat.gcd_comm]
theorem tmod_bd {a b M : Int} (ha : -M ≤ a ∧ a ≤ M) (hb : -M ≤ b ∧ b ≤ M) (h0 : b ≠ 0) : -M ≤ a.tmod b ∧ a.tmod b ≤ M ∧ (a.tmod b).natAbs < b.natAbs := by
  have h1 : (a.tmod b).natAbs = a.natAbs % b.natAbs := Int.natAbs_tmod a b
  have h2 : a.natAbs % b.natAbs < b.natAbs := Nat.mod_lt _ (by omega)
  omega
theorem gcd_pos {n d : Int} (hd : d ≠ 0) : 1 ≤ (Int.gcd n d : Int) := by
  have : 0 < Int.gcd n d := Int.gcd_pos_of_ne_zero_right n hd
  omega
theorem tdiv_bd {a b M : Int} (ha : -M ≤ a ∧ a ≤ M) : -M ≤ a.tdiv b ∧ a.tdiv b ≤ M := by
  have h1 : (a.tdiv b).natAbs = a.natAbs / b.natAbs := Int.natAbs_tdiv a b
  have h2 : a.natAbs / b.natAbs ≤ a.natAbs := Nat.div_le_self _ _
  omega
theorem addU_snoc (out : List Atom) (p m : Int) : addU (out ++ [⟨p, m⟩]) p = out ++ [⟨p, m + 1⟩] := by
  unfold addU
  simp [List.getLast?_append]
theorem addU_new {out : List Atom} {p : Int} (h : ∀ x, out.getLast? = some x → x.p ≠ p) : addU out p = out ++ [⟨p, 1⟩] := by
  unfold addU
  cases hx : out.getLast? with
  | none => rfl
  | some x => simp only; rw [if_neg (h x hx)]
theorem fold_replicate {out : List Atom} {p : Int} (h : ∀ x, out.getLast? = some x → x.p ≠ p) : ∀ q : Nat, (List.replicate (q + 1) p).foldl addU out = out ++ [⟨p, ((q + 1 : Nat) : Int)⟩]
  | 0 => by simp [addU_new h]
  | q + 1 => by
    rw [List.replicate_succ', List.foldl_append, fold_replicate h q]
    simp only [List.foldl_cons, List.foldl_nil]
    rw [addU_snoc]
    congr 1
theorem last_take {l : List Atom} {k : Nat} (hk : k + 1 ≤ l.length) : (l.take (k + 1)).getLast? = some (atK l k) := by
  rw [List.getLast?_eq_getElem?, List.length_take, Nat.min_eq_left hk, Nat.add_sub_cancel, List.getElem?_take_of_lt (by omega), List.getElem?_eq_getElem (by omega), atK_at (by omega)]
theorem collect_units_take {P M : Int} {l : List Atom} (h : isListB P M l = true) : ∀ k, k ≤ l.length → collectL (unitsL (l.take k)) = l.take k
  | 0, _ => by simp [unitsL, collectL]
  | k + 1, hk => by
    have ih := collect_units_take h k (by omega)
    have hg := goodAt_spec (by omega) (isListB_at h (show k < l.length by omega))
    have e : unitsL (l.take (k + 1)) = unitsL (l.take k) ++ List.replicate l[k].m.toNat l[k].p := by
      unfold unitsL; rw [List.take_succ_eq_append_getElem (by omega), List.flatMap_append]; simp
    obtain ⟨q, hq⟩ : ∃ q, l[k].m.toNat = q + 1 := ⟨l[k].m.toNat - 1, by omega⟩
    unfold collectL at ih ⊢
    rw [e, List.foldl_append, ih, hq, fold_replicate, List.take_succ_eq_append_getElem (by omega)]
    · congr 2
      have : l[k].m = ((q + 1 : Nat) : Int) := by omega
      rw [← this]
    · intro x hx
      cases k with
      | zero => simp at hx
      | succ k =>
        rw [last_take (by omega)] at hx
        have h3 := hg.2.2 (by omega)
        rw [Nat.add_sub_cancel] at h3
        have : atK l k = x := by simpa using hx
        rw [← this]
        omega
theorem collect_units {P M : Int} {l : List Atom} (h : isListB P M l = true) : collectL (unitsL l) = l := by
  have := collect_units_take h l.length (Nat.le_refl _)
  rwa [List.take_length] at this
theorem units_inj {P M P' M' : Int} {l m : List Atom} (hl : isListB P M l = true) (hm : isListB P' M' m = true) (h : unitsL l = unitsL m) : l = m := by
  rw [← collect_units hl, ← collect_units hm, h]
theorem list_eq {u v : List Int} (h : u.length = v.length) (h2 : ∀ j, j < u.length → u[j]?.getD 0 = v[j]?.getD 0) : u = v := by
  refine List.ext_getElem h fun j h1 h3 => ?_
  have := h2 j h1
  rw [List.getElem?_eq_getElem h1, List.getElem?_eq_getElem h3] at this
  simpa using this
theorem pair_symm {l m : List Atom} (h : pairErr l m = 0) : pairErr m l = 0 := by
  obtain ⟨h1, h2, h3⟩ := pairErr_ok h
  unfold pairErr; rw [h1, h2, h3]; simp
theorem pair_self {l m : List Atom} (h : pairErr l m = 0) : pairErr l l = 0 := by
  obtain ⟨h1, h2, h3⟩ := pairErr_ok h
  unfold pairErr; rw [h1]; simp
theorem distI_symm (a b : Int) : distI a b = distI b a := by unfold distI; split <;> split <;> omega
theorem distI_self (a : Int) : distI a a = 0 := by unfold distI; split <;> omega
theorem distI_tri (a b c : Int) : distI a c ≤ distI a b + distI b c := by unfold distI; split <;> split <;> split <;> omega
theorem priceV_symm (a b k : Int) : priceV a b k = priceV b a k := by unfold priceV; rw [distI_symm]
theorem priceV_self (a k : Int) : priceV a a k = 0 := by unfold priceV; rw [distI_self]; simp
theorem apartTo_symm (u v : List Int) (k : Int) : ∀ n, apartTo u v k n = apartTo v u k n
  | 0 => rfl
  | n + 1 => by rw [apartTo_succ, apartTo_succ, apartTo_symm u v k n, priceV_symm]
theorem apartTo_self (u : List Int) (k : Int) : ∀ n, apartTo u u k n = 0
  | 0 => rfl
  | n + 1 => by rw [apartTo_succ, apartTo_self u k n, priceV_self]; rfl
theorem apartTo_tri (u v t : List Int) : ∀ n, apartTo u t 1 n ≤ apartTo u v 1 n + apartTo v t 1 n
  | 0 => by simp [apartTo]
  | n + 1 => by
    have ih := apartTo_tri u v t n
    have h := distI_tri (u[n]?.getD 0) (v[n]?.getD 0) (t[n]?.getD 0)
    rw [apartTo_succ, apartTo_succ, apartTo_succ]
    simp only [priceV] at *
    simp only [show ¬ (1 : Int) = 2 by omega, if_false]
    omega
theorem apartErr_ok {l m : List Atom} {k : Int} (h : apartErr l m k = 0) : pairErr l m = 0 ∧ kindB k = true := by
  unfold apartErr at h
  by_cases h1 : pairErr l m = 0
  · rw [if_neg (by simpa using h1)] at h
    by_cases h2 : kindB k = true
    · exact ⟨h1, h2⟩
    · rw [if_neg h2] at h; simp at h
  · rw [if_pos h1] at h; exact absurd h h1
theorem apartErr_mk {l m : List Atom} {k : Int} (h : pairErr l m = 0) (h2 : kindB k = true) : apartErr l m k = 0 := by unfold apartErr; rw [h, h2]; simp
theorem apart_symm {l m : List Atom} {k : Int} (h : apartErr l m k = 0) : apartErr m l k = 0 ∧ apartV m l k = apartV l m k := by
  obtain ⟨h1, h2⟩ := apartErr_ok h
  have h3 := apartErr_mk (pair_symm h1) h2
  obtain ⟨g1, g2, g3⟩ := pairErr_ok h1
  have hu := units_eq (fine_atoms g1) (fine_atoms g2) g3
  refine ⟨h3, ?_⟩
  unfold apartV apartL
  rw [if_pos h, if_pos h3, hu, apartTo_symm]
theorem apart_self {l m : List Atom} {k : Int} (h : apartErr l m k = 0) : apartErr l l k = 0 ∧ apartV l l k = 0 := by
  obtain ⟨h1, h2⟩ := apartErr_ok h
  have h3 := apartErr_mk (pair_self h1) h2
  refine ⟨h3, ?_⟩
  unfold apartV apartL
  rw [if_pos h3, apartTo_self]
theorem apart_tri {l m n : List Atom} (h1 : apartErr l n 1 = 0) (h2 : apartErr l m 1 = 0) (h3 : apartErr m n 1 = 0) : apartV l n 1 ≤ apartV l m 1 + apartV m n 1 := by
  obtain ⟨a1, -⟩ := apartErr_ok h1
  obtain ⟨a2, -⟩ := apartErr_ok h2
  obtain ⟨g1, g2, g3⟩ := pairErr_ok a2
  have hu := units_eq (fine_atoms g1) (fine_atoms g2) g3
  unfold apartV apartL
  rw [if_pos h1, if_pos h2, if_pos h3, ← hu]
  exact apartTo_tri _ _ _ _
theorem apartTo_sum (u v : List Int) (k : Int) : ∀ n, apartTo u v k n = sumR (fun i => priceV (gi u i) (gi v i) k) n
  | 0 => rfl
  | n + 1 => by rw [apartTo_succ, apartTo_sum u v k n]; rfl
theorem priceV_two (a b : Int) : priceV a b 2 = (b - a) * (b - a) := by
  unfold priceV distI; rw [if_pos rfl]; split
  · rfl
  · have e : a - b = -(b - a) := by omega
    rw [e, Int.neg_mul_neg]
theorem sumR_swap (f : Nat → Nat → Int) (n : Nat) : ∀ m, sumR (fun i => sumR (fun k => f i k) n) m = sumR (fun k => sumR (fun i => f i k) m) n
  | 0 => by
    have : ∀ n, sumR (fun _ => (0 : Int)) n = 0 := fun n => by induction n with | zero => rfl | succ n ih => simp [sumR, ih]
    simp only [sumR]; rw [this]
  | m + 1 => by
    simp only [sumR]
    rw [sumR_swap f n m, ← sumR_add]
theorem gcd_dvd' (n d : Int) : ratN n d * (Int.gcd n d : Int) = n ∧ ratD n d * (Int.gcd n d : Int) = d := by
  unfold ratN ratD
  exact ⟨Int.tdiv_mul_cancel (Int.gcd_dvd_left _ _), Int.tdiv_mul_cancel (Int.gcd_dvd_right _ _)⟩
theorem rat_le {n d a : Int} (hd : d ≠ 0) (h : n ≤ d * a) : ratN n d ≤ a * ratD n d := by
  obtain ⟨h1, h2⟩ := gcd_dvd' n d
  have hg := gcd_pos (n := n) (d := d) hd
  generalize (Int.gcd n d : Int) = g at *
  generalize ratD n d = r at *
  generalize ratN n d = s at *
  have e : d * a = (a * r) * g := by rw [← h2]; grind
  rw [← h1, e] at h
  exact Int.le_of_mul_le_mul_right h (by omega)
theorem units_app (l k : List Atom) : unitsL (l ++ k) = unitsL l ++ unitsL k := by simp [unitsL]
/-- ascending -/
def Asc (U : List Int) : Prop := ∀ j, j + 1 < U.length → gi U j ≤ gi U (j + 1)
theorem Asc.le {U : List Int} (h : Asc U) {i : Nat} : ∀ d, i + d < U.length → gi U i ≤ gi U (i + d)
  | 0, _ => Int.le_refl _
  | d + 1, hd => Int.le_trans (h.le d (by omega)) (h (i + d) (by omega))
theorem isListB_pw {P M : Int} {l : List Atom} (h : isListB P M l = true) : l.Pairwise (fun a b => a.p < b.p) := by
  rw [List.pairwise_iff_getElem]
  intro i j hi hj hij
  have step : ∀ k, (hk : k + 1 < l.length) → (l[k]'(by omega)).p < l[k + 1].p := fun k hk => by
    have := (goodAt_spec hk (isListB_at h hk)).2.2 (by omega)
    rw [Nat.add_sub_cancel, atK_at (by omega)] at this
    exact this
  have : ∀ d, (hd : i + 1 + d < l.length) → l[i].p < (l[i + 1 + d]).p := fun d => by
    induction d with
    | zero => intro hd; exact step i hd
    | succ d ih => intro hd; exact Int.lt_trans (ih (by omega)) (step (i + 1 + d) hd)
  have e := this (j - (i + 1)) (by omega)
  simp only [show i + 1 + (j - (i + 1)) = j by omega] at e
  exact e
theorem isListB_mem {P M : Int} {l : List Atom} (h : isListB P M l = true) {y : Atom} (hy : y ∈ l) : (-P ≤ y.p ∧ y.p ≤ P) ∧ (1 ≤ y.m ∧ y.m ≤ M) := by
  obtain ⟨j, hj, rfl⟩ := List.getElem_of_mem hy
  have := goodAt_spec hj (isListB_at h hj)
  exact ⟨this.1, this.2.1⟩
theorem units_asc {P M : Int} {l : List Atom} (h : isListB P M l = true) : Asc (unitsL l) := by
  have key : ∀ k, k ≤ l.length → Asc (unitsL (l.take k)) ∧ ∀ j, j < (unitsL (l.take k)).length → ∀ q, (hq : q < l.length) → k ≤ q → gi (unitsL (l.take k)) j < l[q].p := fun k => by
    induction k with
    | zero => intro _; simp [unitsL, Asc]
    | succ k ih =>
      intro hk
      obtain ⟨h1, h2⟩ := ih (by omega)
      have pw := List.pairwise_iff_getElem.1 (isListB_pw h)
      have e : unitsL (l.take (k + 1)) = unitsL (l.take k) ++ List.replicate l[k].m.toNat l[k].p := by
        rw [List.take_succ_eq_append_getElem (by omega), units_app]; simp [unitsL]
      rw [e]
      generalize unitsL (l.take k) = V at *
      have ga : ∀ j, j < V.length → gi (V ++ List.replicate l[k].m.toNat l[k].p) j = gi V j := fun j hj => by
        simp only [gi]; rw [List.getElem?_append_left hj]
      have gb : ∀ j, V.length ≤ j → j < (V ++ List.replicate l[k].m.toNat l[k].p).length → gi (V ++ List.replicate l[k].m.toNat l[k].p) j = l[k].p := fun j hj hj2 => by
        simp only [List.length_append, List.length_replicate] at hj2
        simp only [gi]; rw [List.getElem?_append_right hj, List.getElem?_replicate, if_pos (by omega)]; rfl
      refine ⟨fun j hj => ?_, fun j hj q hq hkq => ?_⟩
      · rcases Nat.lt_or_ge (j + 1) V.length with h3 | h3
        · rw [ga j (by omega), ga (j + 1) h3]; exact h1 j h3
        · rw [gb (j + 1) h3 hj]
          rcases Nat.lt_or_ge j V.length with h4 | h4
          · rw [ga j h4]; exact Int.le_of_lt (h2 j h4 k (by omega) (Nat.le_refl _))
          · rw [gb j h4 (by omega)]; exact Int.le_refl _
      · rcases Nat.lt_or_ge j V.length with h4 | h4
        · rw [ga j h4]; exact h2 j h4 q hq (by omega)
        · rw [gb j h4 hj]; exact pw k q (by omega) hq (by omega)
  have := (key l.length (Nat.le_refl _)).1
  rwa [List.take_length] at this
theorem asc_pw {L : List Int} (h : Asc L) : L.Pairwise (· ≤ ·) := by
  rw [List.pairwise_iff_getElem]
  intro i j hi hj hij
  have := h.le (i := i) (j - i) (by omega)
  rw [show i + (j - i) = j by omega] at this
  simp only [gi] at this
  rw [List.getElem?_eq_getElem (by omega), List.getElem?_eq_getElem hj] at this
  simpa using this
theorem gi_mem {L : List Int} {i : Nat} (hi : i < L.length) : gi L i ∈ L := by
  simp only [gi]; rw [List.getElem?_eq_getElem hi, Option.getD_some]; exact List.getElem_mem hi
/-- how many are at most t -/
theorem rank_iff : ∀ {L : List Int}, L.Pairwise (· ≤ ·) → ∀ {r : Nat} {t : Int}, r < L.length → (gi L r ≤ t ↔ r < L.countP (fun x => decide (x ≤ t)))
  | a :: L, h, 0, t, _ => by
    have hh := List.pairwise_cons.1 h
    rw [List.countP_cons]
    have e : gi (a :: L) 0 = a := rfl
    rw [e]
    by_cases ha : a ≤ t
    · simp [ha]
    · have : L.countP (fun x => decide (x ≤ t)) = 0 := by
        rw [List.countP_eq_zero]; intro x hx; have := hh.1 x hx; simp; omega
      simp [ha, this]
  | a :: L, h, r + 1, t, hr => by
    have hh := List.pairwise_cons.1 h
    have ih := rank_iff hh.2 (r := r) (t := t) (by simpa using hr)
    have e : gi (a :: L) (r + 1) = gi L r := rfl
    rw [e, List.countP_cons]
    by_cases ha : a ≤ t
    · simp [ha]; exact ih
    · have h0 : L.countP (fun x => decide (x ≤ t)) = 0 := by
        rw [List.countP_eq_zero]; intro x hx; have := hh.1 x hx; simp; omega
      have h1 : a ≤ gi L r := hh.1 _ (gi_mem (by simpa using hr))
      simp [ha, h0]; omega
def bothErr (l m : List Atom) : Int := if valLoad l ≠ 0 then valLoad l else valLoad m
def linePair (l m : List Atom) : Int := if bothErr l m ≠ 0 then bothErr l m else if totalL l ≠ totalL m then 5 else 0
theorem bothErr_ok {l m : List Atom} (h : bothErr l m = 0) : valLoad l = 0 ∧ valLoad m = 0 := by
  unfold bothErr at h
  by_cases h1 : valLoad l = 0
  · rw [if_neg (by simpa using h1)] at h; exact ⟨h1, h⟩
  · rw [if_pos h1] at h; exact absurd h h1
/-- the mass of the first k atoms that lies at t or below -/
def belTo (l : List Atom) (t : Int) (k : Nat) : Int := sumR (fun i => if (atK l i).p ≤ t then (atK l i).m else 0) k
/-- the sum of the gaps of the two heaps at the first j places from -1000 on -/
def areaTo (l m : List Atom) (j : Nat) : Int := sumR (fun i => distI (belTo m ((i : Int) - 1000) m.length) (belTo l ((i : Int) - 1000) l.length)) j
theorem linePair_ok {l m : List Atom} (h : linePair l m = 0) : valLoad l = 0 ∧ valLoad m = 0 ∧ totalL l = totalL m := by
  unfold linePair at h
  by_cases h1 : bothErr l m = 0
  · rw [if_neg (by simpa using h1)] at h
    obtain ⟨a, b⟩ := bothErr_ok h1
    by_cases h2 : totalL l = totalL m
    · exact ⟨a, b, h2⟩
    · rw [if_pos h2] at h; simp at h
  · rw [if_pos h1] at h; exact absurd h h1
/-- the cells of the opened atoms: place, mass, left -/
def openV (l : List Atom) : List Value := l.flatMap fun s => [.int .i64 s.p, .int .i64 s.m, .int .i64 s.m]
theorem openV_length (l : List Atom) : (openV l).length = l.length * 3 := by
  induction l with
  | nil => rfl
  | cons x l ih => have e : openV (x :: l) = [.int .i64 x.p, .int .i64 x.m, .int .i64 x.m] ++ openV l := by simp [openV]
                   rw [e, List.length_append, ih]; simp; omega
theorem openV_append (l k : List Atom) : openV (l ++ k) = openV l ++ openV k := by simp [openV]
def indI (b : Bool) : Int := if b then 1 else 0
theorem gap_line {a b : Int} (ha : -1000 ≤ a ∧ a ≤ 1000) (hb : -1000 ≤ b ∧ b ≤ 1000) (hab : a ≤ b) : ∀ j : Nat, j ≤ 2000 →
    sumR (fun i => distI (indI (decide (b ≤ (i : Int) - 1000))) (indI (decide (a ≤ (i : Int) - 1000)))) j = if (j : Int) ≤ a + 1000 then 0 else if (j : Int) ≤ b + 1000 then (j : Int) - (a + 1000) else b - a
  | 0, _ => by simp only [sumR]; rw [if_pos (by omega)]
  | j + 1, hj => by
    have ih := gap_line ha hb hab j (by omega)
    simp only [sumR]
    rw [ih]
    by_cases h1 : a ≤ (j : Int) - 1000
    · rw [decide_eq_true h1]
      by_cases h2 : b ≤ (j : Int) - 1000
      · rw [decide_eq_true h2]
        have e : distI (indI true) (indI true) = 0 := rfl
        rw [e]
        split <;> split <;> (try split) <;> (try split) <;> omega
      · rw [decide_eq_false h2]
        have e : distI (indI false) (indI true) = 1 := rfl
        rw [e]
        split <;> split <;> (try split) <;> (try split) <;> omega
    · rw [decide_eq_false h1, decide_eq_false (show ¬ b ≤ (j : Int) - 1000 by omega)]
      have e : distI (indI false) (indI false) = 0 := rfl
      rw [e]
      split <;> split <;> (try split) <;> (try split) <;> omega
theorem gap_sum {a b : Int} (ha : -1000 ≤ a ∧ a ≤ 1000) (hb : -1000 ≤ b ∧ b ≤ 1000) :
    sumR (fun i => distI (indI (decide (b ≤ (i : Int) - 1000))) (indI (decide (a ≤ (i : Int) - 1000)))) 2000 = distI a b := by
  by_cases hab : a ≤ b
  · rw [gap_line ha hb hab 2000 (Nat.le_refl _)]
    unfold distI
    rw [if_pos hab]
    split <;> (try split) <;> omega
  · rw [sumR_congr (n := 2000) (g := fun i => distI (indI (decide (a ≤ (i : Int) - 1000))) (indI (decide (b ≤ (i : Int) - 1000)))) (fun i _ => distI_symm _ _) 2000 (Nat.le_refl _),
      gap_line hb ha (by omega) 2000 (Nat.le_refl _)]
    unfold distI
    rw [if_neg hab]
    split <;> (try split) <;> omega
theorem pre_sum (p q : Nat) : ∀ n : Nat, sumR (fun k => distI (indI (decide (k < q))) (indI (decide (k < p)))) n = distI ((min q n : Nat) : Int) ((min p n : Nat) : Int)
  | 0 => by simp [sumR, distI]
  | n + 1 => by
    simp only [sumR]
    rw [pre_sum p q n]
    by_cases h1 : n < p
    · by_cases h2 : n < q
      · rw [decide_eq_true h1, decide_eq_true h2]
        have e : distI (indI true) (indI true) = 0 := rfl
        rw [e]; unfold distI; split <;> split <;> omega
      · rw [decide_eq_true h1, decide_eq_false h2]
        have e : distI (indI false) (indI true) = 1 := rfl
        rw [e]; unfold distI; split <;> split <;> omega
    · by_cases h2 : n < q
      · rw [decide_eq_false h1, decide_eq_true h2]
        have e : distI (indI true) (indI false) = 1 := rfl
        rw [e]; unfold distI; split <;> split <;> omega
      · rw [decide_eq_false h1, decide_eq_false h2]
        have e : distI (indI false) (indI false) = 0 := rfl
        rw [e]; unfold distI; split <;> split <;> omega
theorem bel_count {l : List Atom} (hF : Fine l) (t : Int) : belTo l t l.length = ((unitsL l).countP (fun x => decide (x ≤ t)) : Nat) := by
  have key : ∀ k, k ≤ l.length → belTo l t k = ((unitsL (l.take k)).countP (fun x => decide (x ≤ t)) : Nat) := fun k => by
    induction k with
    | zero => intro _; simp [belTo, sumR, unitsL]
    | succ k ih =>
      intro hk
      have ih := ih (by omega)
      have hm := hF.2 k (by omega)
      have e : unitsL (l.take (k + 1)) = unitsL (l.take k) ++ List.replicate l[k].m.toNat l[k].p := by
        rw [List.take_succ_eq_append_getElem (by omega)]; unfold unitsL; rw [List.flatMap_append]; simp only [List.flatMap_cons, List.flatMap_nil, List.append_nil]
      unfold belTo at ih ⊢
      simp only [sumR]
      rw [ih, e, List.countP_append, atK_at (by omega)]
      by_cases h : l[k].p ≤ t
      · rw [if_pos h]
        have : (List.replicate l[k].m.toNat l[k].p).countP (fun x => decide (x ≤ t)) = l[k].m.toNat := by
          rw [List.countP_eq_length.2]
          · simp
          · intro a ha; rw [List.eq_of_mem_replicate ha]; exact decide_eq_true h
        omega
      · rw [if_neg h]
        have : (List.replicate l[k].m.toNat l[k].p).countP (fun x => decide (x ≤ t)) = 0 := by
          rw [List.countP_eq_zero]
          intro a ha; rw [List.eq_of_mem_replicate ha]; simpa using h
        omega
  have := key l.length (Nat.le_refl _)
  rwa [List.take_length] at this
theorem load_asc {l : List Atom} (h : valLoad l = 0) : Asc (unitsL l) ∧ ∀ k, k < (unitsL l).length → -1000 ≤ gi (unitsL l) k ∧ gi (unitsL l) k ≤ 1000 := by
  obtain ⟨l1, l2⟩ := listErr_ok h
  refine ⟨units_asc l2, fun k hk => ?_⟩
  have hx := gi_mem hk
  unfold unitsL at hx
  obtain ⟨y, hy, hz⟩ := List.mem_flatMap.1 hx
  have e := List.eq_of_mem_replicate hz
  have hb := (isListB_mem l2 hy).1
  unfold unitsL
  omega
/-- the area is the sum of the distances -/
theorem area_said {l m : List Atom} (h : linePair l m = 0) : areaTo l m 2000 = apartL l m 1 := by
  obtain ⟨h1, h2, h3⟩ := linePair_ok h
  obtain ⟨a1, a2⟩ := load_asc h1
  obtain ⟨b1, b2⟩ := load_asc h2
  have hl := units_eq (fine_load h1) (fine_load h2) h3
  unfold apartL
  rw [apartTo_sum]
  rw [sumR_congr (n := (unitsL l).length) (g := fun k => sumR (fun i => distI (indI (decide (gi (unitsL m) k ≤ (i : Int) - 1000))) (indI (decide (gi (unitsL l) k ≤ (i : Int) - 1000)))) 2000) (fun k hk => by
    rw [gap_sum (a2 k hk) (b2 k (by omega))]; unfold priceV; rw [if_neg (by omega)]) _ (Nat.le_refl _), sumR_swap]
  unfold areaTo
  refine sumR_congr (n := 2000) (fun i _ => ?_) _ (Nat.le_refl _)
  rw [bel_count (fine_load h1), bel_count (fine_load h2)]
  generalize (i : Int) - 1000 = t
  rw [sumR_congr (n := (unitsL l).length) (g := fun k => distI (indI (decide (k < (unitsL m).countP (fun x => decide (x ≤ t))))) (indI (decide (k < (unitsL l).countP (fun x => decide (x ≤ t)))))) (fun k hk => by
    have r1 := rank_iff (asc_pw a1) (r := k) (t := t) hk
    have r2 := rank_iff (asc_pw b1) (r := k) (t := t) (by omega)
    rw [show decide (gi (unitsL m) k ≤ t) = decide (k < (unitsL m).countP (fun x => decide (x ≤ t))) from decide_eq_decide.2 r2,
      show decide (gi (unitsL l) k ≤ t) = decide (k < (unitsL l).countP (fun x => decide (x ≤ t))) from decide_eq_decide.2 r1]) _ (Nat.le_refl _), pre_sum]
  have c1 := List.countP_le_length (p := fun x => decide (x ≤ t)) (l := unitsL l)
  have c2 := List.countP_le_length (p := fun x => decide (x ≤ t)) (l := unitsL m)
  rw [Nat.min_eq_left (by omega), Nat.min_eq_left (by omega)]
end Go.Proofs.Ytfhgnmijigdlmaa
