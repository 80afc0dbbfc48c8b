/- Plain words of roads: barriers, as the reference asks for them. No program in sight. -/
import Derived.Test.YtbejgbflipoboaaRH
import Derived.Test.YtbejgbflipoboaaOwnB
namespace Go.Proofs.Ytbejgbflipoboaa
open Go.RowKit

/-- what is too much in a set, of the first k nodes -/
def inTo (x : List Int) (S : List Bool) (k : Nat) : Int := sumR (fun v => if gb S v then gi x v else 0) k
/-- less what can leave it by the first k roads -/
def lessTo (R : List Road) (x : List Int) (S : List Bool) (N : Nat) : Nat → Int
  | 0 => inTo x S N
  | k + 1 => if gb S (rdK R k).fr.toNat && !gb S (rdK R k).to.toNat then lessTo R x S N k - (rdK R k).wd else lessTo R x S N k
def damB (N : Nat) (R : List Road) (x : List Int) (S : List Bool) : Bool := decide (0 < lessTo R x S N R.length)
theorem inTo_bd {x : List Int} (h : ∀ j, j < x.length → -30 ≤ gi x j ∧ gi x j ≤ 30) (S : List Bool) {k : Nat} (hk : k ≤ x.length) (h6 : x.length ≤ 6) : -180 ≤ inTo x S k ∧ inTo x S k ≤ 180 := by
  have := sumR_bd (f := fun v => if gb S v then gi x v else 0) (A := -30) (B := 30) (n := x.length) (fun i hi => by have := h i hi; split <;> omega) k hk
  unfold inTo
  omega
theorem lessTo_bd {N : Int} {R : List Road} (hok : NetOk N R) {x : List Int} {S : List Bool} {n : Nat} (h : -180 ≤ inTo x S n ∧ inTo x S n ≤ 180) : ∀ k, k ≤ R.length → -180 - 60 * (k : Int) ≤ lessTo R x S n k ∧ lessTo R x S n k ≤ 180
  | 0, _ => by simp only [lessTo]; omega
  | k + 1, hk => by
    have ih := lessTo_bd hok h k (by omega)
    have := hok.wd k (by omega)
    simp only [lessTo, rdK_at (show k < R.length by omega)]
    split <;> omega
theorem lessTo_eq (R : List Road) (x : List Int) (S : List Bool) (N : Nat) : ∀ k, lessTo R x S N k = inTo x S N - sumN (fun k => if gb S (rdK R k).fr.toNat && !gb S (rdK R k).to.toNat then (rdK R k).wd else 0) k
  | 0 => by simp [lessTo, sumN]
  | k + 1 => by
    simp only [lessTo, sumN]
    rw [lessTo_eq R x S N k]
    split <;> omega
theorem damB_iff (N : Nat) (R : List Road) (x : List Int) (S : List Bool) : damB N R x S = true ↔ (netR R).Dam N (gi x) (gb S) := by
  unfold damB NetG.Dam
  rw [lessTo_eq, decide_eq_true_eq]
  have h1 : inTo x S N = sumS (gi x) (gb S) N := sumR_N _ _
  have h2 : (netR R).cut (gb S) = sumN (fun k => if gb S (rdK R k).fr.toNat && !gb S (rdK R k).to.toNat then (rdK R k).wd else 0) R.length := rfl
  rw [h1, h2]
  omega
theorem dam_congr {G : NetG} {N : Nat} (hG : G.Fine N) {x : Nat → Int} {S T : Nat → Bool} (h : ∀ v, v < N → S v = T v) : G.Dam N x S ↔ G.Dam N x T := by
  unfold NetG.Dam
  have h1 : sumS x S N = sumS x T N := sumN_congr fun v hv => by rw [h v hv]
  have h2 : G.cut S = G.cut T := sumN_congr fun k hk => by rw [h _ (hG k hk).1, h _ (hG k hk).2]
  rw [h1, h2]
/-- the set of the bits of a number; the first k are told -/
def bitsTo (N s k : Nat) : List Bool := (List.range N).map fun i => if i < k then s.testBit i else false
theorem bitsTo_length (N s k : Nat) : (bitsTo N s k).length = N := by simp [bitsTo]
theorem bitsTo_zero (N s : Nat) : bitsTo N s 0 = List.replicate N false := by unfold bitsTo; rw [List.eq_replicate_iff]; simp
theorem bitsTo_set {N s k : Nat} : (bitsTo N s k).set k (s.testBit k) = bitsTo N s (k + 1) := List.ext_getElem (by simp [bitsTo]) fun j h1 h2 => by
  rw [List.getElem_set]
  simp only [bitsTo, List.getElem_map, List.getElem_range]
  by_cases e : k = j
  · subst e; simp
  · rw [if_neg e]
    by_cases h : j < k
    · rw [if_pos h, if_pos (by omega)]
    · rw [if_neg h, if_neg (by omega)]
theorem gb_bits {N s v : Nat} (h : v < N) : gb (bitsTo N s N) v = s.testBit v := by simp [gb, bitsTo, h]
/-- none of the first k sets is a barrier -/
def freeTo (N : Nat) (R : List Road) (x : List Int) (k : Nat) : Bool := (List.range k).all fun s => !damB N R x (bitsTo N s N)
theorem freeTo_succ (N : Nat) (R : List Road) (x : List Int) (k : Nat) : freeTo N R x (k + 1) = (freeTo N R x k && !damB N R x (bitsTo N k N)) := by simp [freeTo, List.range_succ]
theorem bits_of (S : Nat → Bool) : ∀ N, ∃ s, s < 2 ^ N ∧ ∀ v, v < N → s.testBit v = S v
  | 0 => ⟨0, by simp, fun v hv => by omega⟩
  | N + 1 => by
    obtain ⟨s, h1, h2⟩ := bits_of S N
    refine ⟨s + (if S N then 2 ^ N else 0), by rw [Nat.pow_succ]; split <;> omega, fun v hv => ?_⟩
    rcases Nat.lt_succ_iff_lt_or_eq.1 hv with hv | rfl
    · split
      · rw [Nat.add_comm, Nat.testBit_two_pow_add_gt hv]; exact h2 v hv
      · exact h2 v hv
    · split
      · rename_i h
        rw [Nat.add_comm, Nat.testBit_two_pow_add_eq, Nat.testBit_lt_two_pow h1, h]; rfl
      · rename_i h
        rw [Nat.add_zero, Nat.testBit_lt_two_pow h1]; simpa using h
/-- the reference's answer is the program's -/
theorem free_ok {M : Nat} {R : List Road} {x : List Int} (he : excErr (M : Int) R x = 0) : freeTo M R x (2 ^ M) = okF (M : Int) R x := by
  have hok := netErr_ok (excErr_ok he).1
  have hG := netR_fine hok
  rw [Bool.eq_iff_iff]
  constructor
  · intro h
    cases hb : okF (M : Int) R x with
    | true => rfl
    | false =>
      have hob : okB M R x = false := by unfold okF at hb; simpa [he] using hb
      have hd := ok_dam he (ship_ok he) hob
      obtain ⟨s, h1, h2⟩ := bits_of (reachedB M R x) M
      have h3 := List.all_eq_true.1 h s (List.mem_range.2 h1)
      have h4 : damB M R x (bitsTo M s M) = true := by
        rw [damB_iff]
        exact (dam_congr hG (fun v hv => by rw [gb_bits hv, h2 v hv])).2 hd
      rw [h4] at h3; simp at h3
  · intro h
    rw [okF_iff he] at h
    obtain ⟨g, hg⟩ := h
    refine List.all_eq_true.2 fun s _ => ?_
    cases hd : damB M R x (bitsTo M s M) with
    | false => rfl
    | true => exact (dam_no hok ((damB_iff M R x _).1 hd) hg).elim
end Go.Proofs.Ytbejgbflipoboaa
