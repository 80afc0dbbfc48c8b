/- Plain words of roads: nets, excesses, flows and their costs. No program in sight. -/
import Derived.Test.YtbejgbflipoboaaRecs
namespace Go.Proofs.Ytbejgbflipoboaa
open Go.RowKit

def gi (l : List Int) (i : Nat) : Int := l[i]?.getD 0
theorem gi_def (l : List Int) (i : Nat) : l[i]?.getD 0 = gi l i := rfl
theorem gi_at {l : List Int} {i : Nat} (h : i < l.length) : gi l i = l[i] := by simp [gi, h]
theorem gi_out {l : List Int} {i : Nat} (h : l.length ≤ i) : gi l i = 0 := by simp [gi, h]
theorem gi_set (l : List Int) (i j : Nat) (v : Int) (hi : i < l.length) : gi (l.set i v) j = if i = j then v else gi l j := by
  unfold gi
  rw [List.getElem?_set]
  by_cases h : i = j
  · subst h; simp [hi]
  · simp [h]
def sumR (f : Nat → Int) : Nat → Int
  | 0 => 0
  | n + 1 => sumR f n + f n
theorem sumR_bd {f : Nat → Int} {A B : Int} {n : Nat} (h : ∀ i, i < n → A ≤ f i ∧ f i ≤ B) : ∀ k, k ≤ n → k * A ≤ sumR f k ∧ sumR f k ≤ k * B
  | 0, _ => by simp [sumR]
  | k + 1, hk => by
    have ih := sumR_bd h k (by omega)
    have := h k (by omega)
    simp only [sumR]
    have e : ∀ X : Int, ((k + 1 : Nat) : Int) * X = k * X + X := fun X => by rw [Int.natCast_add, Int.add_mul]; simp
    rw [e, e]
    omega
theorem sumR_congr {f g : Nat → Int} {n : Nat} (h : ∀ i, i < n → f i = g i) : ∀ k, k ≤ n → sumR f k = sumR g k
  | 0, _ => rfl
  | k + 1, hk => by simp only [sumR]; rw [sumR_congr h k (by omega), h k (by omega)]
theorem all_no {α : Type} {p : α → Bool} {l : List α} {k : Nat} (hk : k < l.length) (h : p l[k] = false) : l.all p = false := by
  rw [List.all_eq_false]; exact ⟨l[k], List.getElem_mem hk, by simp [h]⟩
theorem all_yes {α : Type} {p : α → Bool} {l : List α} (h : ∀ j, (hj : j < l.length) → p l[j] = true) : l.all p = true := by
  rw [List.all_eq_true]
  intro x hx
  obtain ⟨j, hj, rfl⟩ := List.getElem_of_mem hx
  exact h j hj
theorem all_at {α : Type} {p : α → Bool} {l : List α} (h : l.all p = true) {k : Nat} (hk : k < l.length) : p l[k] = true := by
  rw [List.all_eq_true] at h; exact h _ (List.getElem_mem hk)
/-! nets -/
def rdK (R : List Road) (k : Nat) : Road := R[k]?.getD default
theorem rdK_at {R : List Road} {k : Nat} (h : k < R.length) : rdK R k = R[k] := by simp [rdK, h]
def roadOk (N : Int) (r : Road) : Bool := withinB r.fr 0 (N - 1) && (withinB r.to 0 (N - 1) && (!decide (r.fr = r.to) && (withinB r.ln 0 99 && withinB r.wd 0 60)))
def netErr (N : Int) (R : List Road) : Int := if withinB N 1 6 then (if 12 < R.length then 3 else if R.all (roadOk N) then 0 else 1) else 1
structure NetOk (N : Int) (R : List Road) : Prop where
  n1 : 1 ≤ N ∧ N ≤ 6
  r12 : R.length ≤ 12
  fr : ∀ k, (h : k < R.length) → 0 ≤ R[k].fr ∧ R[k].fr ≤ N - 1
  to : ∀ k, (h : k < R.length) → 0 ≤ R[k].to ∧ R[k].to ≤ N - 1
  ne : ∀ k, (h : k < R.length) → R[k].fr ≠ R[k].to
  ln : ∀ k, (h : k < R.length) → 0 ≤ R[k].ln ∧ R[k].ln ≤ 99
  wd : ∀ k, (h : k < R.length) → 0 ≤ R[k].wd ∧ R[k].wd ≤ 60
theorem netErr_ok {N : Int} {R : List Road} (h : netErr N R = 0) : NetOk N R := by
  unfold netErr at h
  by_cases h1 : withinB N 1 6 = true
  · rw [if_pos h1] at h
    by_cases h2 : 12 < R.length
    · rw [if_pos h2] at h; simp at h
    · rw [if_neg h2] at h
      by_cases h3 : R.all (roadOk N) = true
      · have key : ∀ k, (h : k < R.length) → roadOk N R[k] = true := fun k hk => all_at h3 hk
        simp only [roadOk, Bool.and_eq_true, withinB_iff, Bool.not_eq_true', decide_eq_false_iff_not] at key
        exact ⟨withinB_iff.1 h1, by omega, fun k hk => (key k hk).1, fun k hk => (key k hk).2.1, fun k hk => (key k hk).2.2.1, fun k hk => (key k hk).2.2.2.1, fun k hk => (key k hk).2.2.2.2⟩
      · rw [if_neg h3] at h; simp at h
  · rw [if_neg h1] at h; simp at h
/-! excesses -/
def excOk (x : Int) : Bool := withinB x (-30) 30
def excErr (N : Int) (R : List Road) (x : List Int) : Int :=
  if netErr N R ≠ 0 then netErr N R else if x.all excOk = true ∧ (x.length : Int) = N then (if sumR (gi x) x.length = 0 then 0 else 5) else 1
theorem excErr_ok {N : Int} {R : List Road} {x : List Int} (h : excErr N R x = 0) : netErr N R = 0 ∧ (x.length : Int) = N ∧ (∀ j, j < x.length → -30 ≤ gi x j ∧ gi x j ≤ 30) ∧ sumR (gi x) x.length = 0 := by
  unfold excErr at h
  by_cases h1 : netErr N R = 0
  · rw [if_neg (by simpa using h1)] at h
    by_cases h2 : x.all excOk = true ∧ (x.length : Int) = N
    · rw [if_pos h2] at h
      by_cases h3 : sumR (gi x) x.length = 0
      · exact ⟨h1, h2.2, fun j hj => by rw [gi_at hj]; exact withinB_iff.1 (all_at h2.1 hj), h3⟩
      · rw [if_neg h3] at h; simp at h
    · rw [if_neg h2] at h; simp at h
  · rw [if_pos h1] at h; exact absurd h h1
/-! flows -/
def flowAt (R : List Road) (f : List Int) (k : Nat) : Bool := withinB (gi f k) 0 (rdK R k).wd
def flowB (R : List Road) (f : List Int) : Bool := decide (f.length = R.length) && (List.range f.length).all (flowAt R f)
theorem flowB_len {R : List Road} {f : List Int} (h : f.length ≠ R.length) : flowB R f = false := by simp [flowB, h]
theorem flowB_no {R : List Road} {f : List Int} {k : Nat} (hk : k < f.length) (h : flowAt R f k = false) : flowB R f = false := by
  unfold flowB
  rw [Bool.and_eq_false_iff]
  right
  rw [List.all_eq_false]
  exact ⟨k, List.mem_range.2 hk, by simp [h]⟩
theorem flowB_yes {R : List Road} {f : List Int} (h0 : f.length = R.length) (h : ∀ k, k < f.length → flowAt R f k = true) : flowB R f = true := by
  unfold flowB
  rw [Bool.and_eq_true, decide_eq_true_eq, List.all_eq_true]
  exact ⟨h0, fun k hk => h k (List.mem_range.1 hk)⟩
theorem flowB_ok {R : List Road} {f : List Int} (h : flowB R f = true) : f.length = R.length ∧ ∀ k, k < R.length → 0 ≤ gi f k ∧ gi f k ≤ (rdK R k).wd := by
  unfold flowB at h
  rw [Bool.and_eq_true, decide_eq_true_eq, List.all_eq_true] at h
  exact ⟨h.1, fun k hk => withinB_iff.1 (h.2 k (List.mem_range.2 (by omega)))⟩
/-- the list with d more at i -/
def addAt (l : List Int) (i : Nat) (d : Int) : List Int := l.set i (gi l i + d)
theorem addAt_length (l : List Int) (i : Nat) (d : Int) : (addAt l i d).length = l.length := by simp [addAt]
/-- what leaves minus what comes at each node, by the first j roads -/
def leaveTo (N : Nat) (R : List Road) (f : List Int) : Nat → List Int
  | 0 => List.replicate N 0
  | j + 1 => addAt (addAt (leaveTo N R f j) (rdK R j).fr.toNat (gi f j)) (rdK R j).to.toNat (-gi f j)
theorem leaveTo_length (N : Nat) (R : List Road) (f : List Int) : ∀ j, (leaveTo N R f j).length = N
  | 0 => by simp [leaveTo]
  | j + 1 => by simp only [leaveTo, addAt_length]; exact leaveTo_length N R f j
theorem gi_addAt {l : List Int} {i : Nat} (hi : i < l.length) (d : Int) (j : Nat) : gi (addAt l i d) j = gi l j + if i = j then d else 0 := by
  unfold addAt
  rw [gi_set _ _ _ _ hi]
  split
  · rename_i h; subst h; rfl
  · simp
theorem leaveTo_bd {N : Nat} {R : List Road} {f : List Int} (h : NetOk N R) (hf : ∀ k, k < R.length → 0 ≤ gi f k ∧ gi f k ≤ (rdK R k).wd) : ∀ j, j ≤ R.length → ∀ i, -(j * 60) ≤ gi (leaveTo N R f j) i ∧ gi (leaveTo N R f j) i ≤ j * 60
  | 0, _, i => by
    have : gi (List.replicate N 0) i = 0 := by unfold gi; rw [List.getElem?_replicate]; split <;> rfl
    simp only [leaveTo, this]; omega
  | j + 1, hj, i => by
    have ih := leaveTo_bd h hf j (by omega) i
    have h1 := hf j (by omega)
    have h2 := h.wd j (by omega)
    have h3 := h.fr j (by omega)
    have h4 := h.to j (by omega)
    rw [rdK_at (by omega)] at h1
    simp only [leaveTo]
    rw [rdK_at (by omega), gi_addAt (by rw [addAt_length, leaveTo_length]; omega), gi_addAt (by rw [leaveTo_length]; omega)]
    have h5 := h.ne j (by omega)
    split <;> split <;> omega
def costTo (R : List Road) (f : List Int) (n : Nat) : Int := sumR (fun k => (rdK R k).ln * gi f k) n
theorem costTo_bd {N : Int} {R : List Road} {f : List Int} (h : NetOk N R) (hf : ∀ k, k < R.length → 0 ≤ gi f k ∧ gi f k ≤ (rdK R k).wd) {n : Nat} (hn : n ≤ R.length) : 0 ≤ costTo R f n ∧ costTo R f n ≤ n * 5940 := by
  have := sumR_bd (f := fun k => (rdK R k).ln * gi f k) (A := 0) (B := 5940) (n := R.length) (fun i hi => by
    have h1 := hf i hi
    have h2 := h.wd i hi
    have h3 := h.ln i hi
    rw [rdK_at hi] at h1
    rw [rdK_at hi]
    refine ⟨Int.mul_nonneg h3.1 h1.1, ?_⟩
    have := Int.mul_le_mul h3.2 (show gi f i ≤ 60 by omega) h1.1 (by omega)
    omega) n hn
  unfold costTo
  omega
def flowErr (N : Int) (R : List Road) (x f : List Int) : Int :=
  if excErr N R x ≠ 0 then excErr N R x else if flowB R f then (if leaveTo N.toNat R f R.length = x then 0 else 7) else 1
def flowV (N : Int) (R : List Road) (x f : List Int) : Int := if flowErr N R x f = 0 then costTo R f R.length else 0
def leavesErr (N : Int) (R : List Road) (f : List Int) : Int := if netErr N R ≠ 0 then netErr N R else if flowB R f then 0 else 1
def leavesV (N : Int) (R : List Road) (f : List Int) : List Int := if leavesErr N R f = 0 then leaveTo N.toNat R f R.length else []
end Go.Proofs.Ytbejgbflipoboaa
