/- Plain law of wide nets: what price.Least says of the distances, against the cheapest flow. No program in sight. -/
import Derived.Test.YtbejgbflipoboaaRY
import Derived.Test.YtbejgbflipoboaaTr5
namespace Go.Proofs.Ytbejgbflipoboaa
open Go.RowKit

theorem pick2_len (x : List Int) : ∀ k, (pickL (posB x) k).length + (pickL (negB x) k).length ≤ k
  | 0 => by simp [pickL]
  | k + 1 => by
    have ih := pick2_len x k
    simp only [pickL]
    by_cases h1 : posB x k = true
    · rw [if_pos h1]
      by_cases h2 : negB x k = true
      · unfold posB at h1; unfold negB at h2
        have := of_decide_eq_true h1; have := of_decide_eq_true h2; omega
      · rw [if_neg h2, List.length_append, List.length_singleton]; omega
    · rw [if_neg h1]
      by_cases h2 : negB x k = true
      · rw [if_pos h2, List.length_append, List.length_singleton]; omega
      · rw [if_neg h2]; omega
theorem massPos_len (x : List Int) (k : Nat) : (massPos x k).length = (pickL (posB x) k).length := by simp [massPos]
theorem massNeg_len (x : List Int) (k : Nat) : (massNeg x k).length = (pickL (negB x) k).length := by simp [massNeg]
theorem sums_pick {x : List Int} {M : Nat} (hs : sumN (gi x) M = 0) : sumN (gi (massPos x M)) (pickL (posB x) M).length = sumN (gi (massNeg x M)) (pickL (negB x) M).length := by
  have h1 := (ends_of x M).sum (fun _ => 1)
  rw [sumN_congr (f := fun v => 1 * gi x v) (g := gi x) (fun v _ => Int.one_mul _), hs] at h1
  rw [sumN_congr (f := gi (massPos x M)) (g := fun i => gi x (gn (pickL (posB x) M) i) * 1) (fun i hi => by unfold massPos; rw [gi_mapN hi]; omega),
    sumN_congr (f := gi (massNeg x M)) (g := fun j => -gi x (gn (pickL (negB x) M) j) * 1) (fun j hj => by unfold massNeg; rw [gi_mapN hj]; omega)]
  omega
theorem posM {x : List Int} {M i : Nat} (h : i < (pickL (posB x) M).length) : 0 < gi (massPos x M) i ∧ gi (massPos x M) i = gi x (gn (pickL (posB x) M) i) := by
  have e : gi (massPos x M) i = gi x (gn (pickL (posB x) M) i) := by unfold massPos; rw [gi_mapN h]
  have h1 : posB x (gn (pickL (posB x) M) i) = true := (pickL_lt h).2
  exact ⟨by rw [e]; exact of_decide_eq_true h1, e⟩
theorem negM {x : List Int} {M i : Nat} (h : i < (pickL (negB x) M).length) : 0 < gi (massNeg x M) i ∧ gi (massNeg x M) i = -gi x (gn (pickL (negB x) M) i) := by
  have e : gi (massNeg x M) i = -gi x (gn (pickL (negB x) M) i) := by unfold massNeg; rw [gi_mapN h]
  have h1 : negB x (gn (pickL (negB x) M) i) = true := (pickL_lt h).2
  have h2 := of_decide_eq_true h1
  exact ⟨by rw [e]; omega, e⟩
theorem sumN_pos {f : Nat → Int} : ∀ {n : Nat}, 1 ≤ n → (∀ i, i < n → 0 < f i) → 0 < sumN f n
  | 0, h, _ => by omega
  | n + 1, _, h => by
    have h1 := sumN_nonneg (f := f) (n := n) (fun i hi => by have := h i (by omega); omega)
    have h2 := h n (by omega)
    simp only [sumN]; omega
theorem neg_some {x : List Int} {M : Nat} (hs : sumN (gi x) M = 0) (hn : 1 ≤ (pickL (posB x) M).length) : 1 ≤ (pickL (negB x) M).length := by
  have h1 := sums_pick hs
  have h2 := sumN_pos (f := gi (massPos x M)) hn (fun i hi => (posM hi).1)
  rcases Nat.eq_zero_or_pos (pickL (negB x) M).length with h | h
  · rw [h] at h1
    simp only [sumN] at h1
    omega
  · exact h
theorem massB_of {l : List Int} (h1 : 1 ≤ l.length) (h5 : l.length ≤ 5) (h : ∀ i, i < l.length → 0 ≤ gi l i ∧ gi l i ≤ 30) : Tr.massB l = true := by
  unfold Tr.massB
  rw [decide_eq_true h1, decide_eq_true h5, Tr.okRow_yes (fun j hj => withinB_iff.2 (h j hj))]; rfl
/-- the masses and the distances fit -/
theorem wide_fits {x : List Int} {M : Nat} {t : Tr.Tbl} (hM : M ≤ 6) (hx : ∀ v, v < M → -30 ≤ gi x v ∧ gi x v ≤ 30) (hs : sumN (gi x) M = 0) (hn : 1 ≤ (pickL (posB x) M).length) (hT : Tr.TOk (pickL (posB x) M).length (pickL (negB x) M).length 0 99 t) : Tr.fitsErr (massPos x M) (massNeg x M) t = 0 := by
  have hm := neg_some hs hn
  have h2 := pick2_len x M
  have b1 : Tr.massB (massPos x M) = true := massB_of (by rw [massPos_len]; exact hn) (by rw [massPos_len]; omega) (fun i hi => by
    rw [massPos_len] at hi
    obtain ⟨h3, h4⟩ := posM hi
    have := hx _ (pickL_lt hi).1
    omega)
  have b2 : Tr.massB (massNeg x M) = true := massB_of (by rw [massNeg_len]; exact hm) (by rw [massNeg_len]; omega) (fun i hi => by
    rw [massNeg_len] at hi
    obtain ⟨h3, h4⟩ := negM hi
    have := hx _ (pickL_lt hi).1
    omega)
  have h0 := hT.cols 0 (by omega)
  have b3 : Tr.tabB 0 99 t = true := Tr.tabB_of hT
  have b4 : Tr.sm (massPos x M) = Tr.sm (massNeg x M) := by
    unfold Tr.sm
    rw [Tr.smTo_sum, Tr.smTo_sum, massPos_len, massNeg_len]
    exact sums_pick hs
  unfold Tr.fitsErr Tr.fitsB
  rw [b1, b2, b3, decide_eq_true (show t.length = (massPos x M).length by rw [massPos_len, hT.len]), decide_eq_true (show (Tr.row t 0).length = (massNeg x M).length by rw [massNeg_len, h0])]
  rw [show (true && (true && (true && (true && true)))) = true from rfl, if_pos rfl, if_pos b4]
/-- the smallest cost by the distances is at most that of any flow, and as much as a cheapest one where the roads are wide -/
theorem wide_said {x : List Int} {M : Nat} {R : List Road} {t : Tr.Tbl} {v least : Int} (hok : NetOk (M : Int) R) (hx : ∀ v, v < M → -30 ≤ gi x v ∧ gi x v ≤ 30) (hs : sumN (gi x) M = 0) (hn : 1 ≤ (pickL (posB x) M).length)
    (hT : Tr.TOk (pickL (posB x) M).length (pickL (negB x) M).length 0 99 t)
    (hr : ∀ i j, i < (pickL (posB x) M).length → j < (pickL (negB x) M).length → gi (distW M R (gn (pickL (posB x) M) i)) (gn (pickL (negB x) M) j) < farW ∧ Tr.tg t i j = gi (distW M R (gn (pickL (posB x) M) i)) (gn (pickL (negB x) M) j))
    (hv : Tr.LeastP (massPos x M) (massNeg x M) t v) {g : List Int} (hg : FlowR M R x g) (hgl : costTo R g R.length = least) (hmin : ∀ f : List Int, FlowR M R x f → least ≤ costTo R f R.length) :
    v ≤ least ∧ ((∀ k, k < R.length → over (gi x) M ≤ (rdK R k).wd) → v = least) := by
  have hM := hok.n1
  have h0 := wide_fits (by omega) hx hs hn hT
  obtain ⟨P, hB, rfl⟩ := hv.2 h0
  rw [massPos_len, massNeg_len] at hB ⊢
  have hE := ends_of x M
  have hD : ∀ i, i < (pickL (posB x) M).length → DistOf (netR R) M (gn (pickL (posB x) M) i) (fun y => decide (gi (distW M R (gn (pickL (posB x) M) i)) y < farW) = true) (gi (distW M R (gn (pickL (posB x) M) i))) := fun i hi => dist_of hok (pickL_lt hi).1
  have hln : ∀ k, k < (netR R).K → 0 ≤ (netR R).ln k ∧ (netR R).ln k ≤ 99 := fun k hk => by
    have hk' : k < R.length := hk
    have := hok.ln k hk'
    show 0 ≤ (rdK R k).ln ∧ (rdK R k).ln ≤ 99
    rw [rdK_at hk']; omega
  have hPl : PlanT (pickL (posB x) M).length (pickL (negB x) M).length (fun i => gi x (gn (pickL (posB x) M) i)) (fun j => -gi x (gn (pickL (negB x) M) j)) (Tr.tg P) :=
    ⟨hB.2.2.pos, fun i hi => by rw [hB.2.2.rows i hi]; exact (posM hi).2, fun j hj => by rw [hB.2.2.cols j hj]; exact (negM hj).2⟩
  have hcost : costT (pickL (posB x) M).length (pickL (negB x) M).length (Tr.tg t) (Tr.tg P) = costT (pickL (posB x) M).length (pickL (negB x) M).length (fun i j => gi (distW M R (gn (pickL (posB x) M) i)) (gn (pickL (negB x) M) j)) (Tr.tg P) := costT_eq fun i j hi hj => by rw [(hr i j hi hj).2]
  have hup : costT (pickL (posB x) M).length (pickL (negB x) M).length (Tr.tg t) (Tr.tg P) ≤ least := by
    obtain ⟨u, p, hup⟩ := hB.2.1.pot
    have e1 := worth_eq hB.2.2 (fun i j hi hj => (hup i j hi hj).2)
    rw [← e1]
    have e2 : worthT (pickL (posB x) M).length (pickL (negB x) M).length (gi (massPos x M)) (gi (massNeg x M)) u p = worthT (pickL (posB x) M).length (pickL (negB x) M).length (fun i => gi x (gn (pickL (posB x) M) i)) (fun j => -gi x (gn (pickL (negB x) M) j)) u p := by
      unfold worthT
      rw [sumN_congr (f := fun i => gi (massPos x M) i * u i) (g := fun i => gi x (gn (pickL (posB x) M) i) * u i) (fun i hi => by rw [(posM hi).2]), sumN_congr (f := fun j => gi (massNeg x M) j * p j) (g := fun j => -gi x (gn (pickL (negB x) M) j) * p j) (fun j hj => by rw [(negM hj).2])]
    rw [e2, ← hgl, costR]
    -- a number that no price comes to
    obtain ⟨big, hbig⟩ : ∃ big : Int, ∀ j, j < (pickL (negB x) M).length → p j ≤ big := by
      have : ∀ q : Nat, ∃ big : Int, ∀ j, j < q → p j ≤ big := fun q => by
        induction q with
        | zero => exact ⟨0, fun j h => by omega⟩
        | succ q ih =>
          obtain ⟨b, h⟩ := ih
          refine ⟨max b (p q), fun j hj => ?_⟩
          rcases Nat.lt_succ_iff_lt_or_eq.1 hj with hj | rfl
          · have := h j hj; omega
          · omega
      exact this _
    exact dist_ge (netR_fine hok) (fun k hk => (hln k hk).1) hE hD (fun i j hi hj => by rw [← (hr i j hi hj).2]; exact (hup i j hi hj).1) (fun k hk => (hg.2.1 k hk).1) hg.2.2 hbig
  refine ⟨hup, fun hw => Int.le_antisymm hup ?_⟩
  obtain ⟨f, hf1, hf2, hf3⟩ := wide_le (netR_fine hok) hln (by omega) hE hD (fun i j hi hj => decide_eq_true (hr i j hi hj).1) hPl hg.2.1 hg.2.2 hw
  rw [hcost]
  refine Int.le_trans ?_ hf3
  have hl : ∀ k, gi ((List.range R.length).map f) k = if k < R.length then f k else 0 := fun k => by
    unfold gi
    by_cases h : k < R.length
    · simp [h]
    · rw [if_neg h, List.getElem?_eq_none (by simp; omega)]; rfl
  have key := hmin ((List.range R.length).map f) ⟨by simp, fun k hk => by rw [hl, if_pos (show k < R.length from hk)]; exact hf1 k hk, fun v hv => by
    rw [← hf2 v hv]
    unfold NetG.out
    exact sumN_congr fun k hk => by rw [hl, if_pos (show k < R.length from hk)]⟩
  rw [costR] at key
  have e : (netR R).cost (gi ((List.range R.length).map f)) = (netR R).cost f := by
    unfold NetG.cost
    exact sumN_congr fun k hk => by rw [hl, if_pos (show k < R.length from hk)]
  rw [e] at key
  exact key
end Go.Proofs.Ytbejgbflipoboaa
