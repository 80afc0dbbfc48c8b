/- Plain words of roads: prices that prove a flow. No program in sight. -/
import Derived.Test.YtbejgbflipoboaaRH
namespace Go.Proofs.Ytbejgbflipoboaa
open Go.RowKit

/-- no step that the flow allows is cheaper than the prices make it -/
def potB (R : List Road) (f p : List Int) : Bool := (stepsTo R f R.length).all fun s => decide (0 ≤ stLn R s + gi p (stFr R s).toNat - gi p (stTo R s).toNat)
def prcB (N : Int) (p : List Int) : Bool := decide ((p.length : Int) = N) && p.all fun v => withinB v (-1000) 1000
def prcErr (N : Int) (R : List Road) (x f p : List Int) : Int :=
  if flowErr N R x f ≠ 0 then flowErr N R x f else if prcB N p then (if potB R f p then 0 else 7) else 1
theorem potB_iff (R : List Road) (f p : List Int) : potB R f p = true ↔ (netR R).arcs.Pot (stepsTo R f R.length) (gi p) := by
  unfold potB Arcs.Pot
  rw [List.all_eq_true]
  constructor
  · intro h s hs
    have := h s hs
    rw [decide_eq_true_eq] at this
    rw [arcR_fr, arcR_to, arcR_ln]; omega
  · intro h s hs
    have := h s hs
    rw [arcR_fr, arcR_to, arcR_ln] at this
    rw [decide_eq_true_eq]; omega
theorem prcB_iff {M : Nat} {p : List Int} : prcB (M : Int) p = true ↔ p.length = M ∧ ∀ v, v < M → -1000 ≤ gi p v ∧ gi p v ≤ 1000 := by
  unfold prcB
  rw [Bool.and_eq_true, decide_eq_true_eq, List.all_eq_true]
  constructor
  · rintro ⟨h1, h2⟩
    refine ⟨by omega, fun v hv => ?_⟩
    have := h2 (p[v]'(by omega)) (List.getElem_mem _)
    rw [gi_at (by omega)]
    simpa [withinB] using this
  · rintro ⟨h1, h2⟩
    refine ⟨by omega, fun y hy => ?_⟩
    obtain ⟨j, hj, rfl⟩ := List.getElem_of_mem hy
    have := h2 j (by omega)
    rw [gi_at hj] at this
    simpa [withinB] using this
theorem prcErr_ok {N : Int} {R : List Road} {x f p : List Int} (h : prcErr N R x f p = 0) : flowErr N R x f = 0 ∧ prcB N p = true ∧ potB R f p = true := by
  unfold prcErr at h
  by_cases h1 : flowErr N R x f = 0
  · rw [if_neg (by omega)] at h
    by_cases h2 : prcB N p = true
    · rw [if_pos h2] at h
      by_cases h3 : potB R f p = true
      · exact ⟨h1, h2, h3⟩
      · rw [if_neg h3] at h; omega
    · rw [if_neg h2] at h; omega
  · rw [if_pos h1] at h; exact absurd h h1
theorem prcErr_mk {N : Int} {R : List Road} {x f p : List Int} (h1 : flowErr N R x f = 0) (h2 : prcB N p = true) (h3 : potB R f p = true) : prcErr N R x f p = 0 := by
  unfold prcErr
  rw [if_neg (by omega), if_pos h2, if_pos h3]
theorem flow_exc0 {N : Int} {R : List Road} {x f : List Int} (h : flowErr N R x f = 0) : excErr N R x = 0 := by
  unfold flowErr at h
  by_cases h1 : excErr N R x = 0
  · exact h1
  · rw [if_pos h1] at h; exact absurd h h1
/-- a flow that is right -/
theorem flow_right {N : Int} {R : List Road} {x f : List Int} (h : flowErr N R x f = 0) : ∃ M : Nat, N = M ∧ x.length = M ∧ NetOk (M : Int) R ∧ excErr (M : Int) R x = 0 ∧ FlowR M R x f ∧ okF (M : Int) R x = true ∧ flowV N R x f = costTo R f R.length ∧ lstF (M : Int) R x ≤ costTo R f R.length := by
  have he := flow_exc0 h
  obtain ⟨M, rfl, h2, h3, _⟩ := exc_nat he
  have hf := (flowErr_iff he).1 h
  exact ⟨M, rfl, h2, h3, he, hf, (okF_iff he).2 ⟨f, hf⟩, by unfold flowV; rw [if_pos h], lstF_le he hf⟩
theorem lstF_at {M : Nat} {R : List Road} {x : List Int} (h : okF (M : Int) R x = true) : ∃ g, FlowR M R x g ∧ lstF (M : Int) R x = costTo R g R.length := by
  obtain ⟨M', e, h2, h3, h4, h5, h6, h7, h8, h9⟩ := okF_flow h
  obtain rfl : M = M' := by omega
  exact ⟨_, h7, h8⟩
/-- prices that prove a flow prove that it is a cheapest one -/
theorem proves {N : Int} {R : List Road} {x f p : List Int} (h : prcErr N R x f p = 0) : flowErr N R x f = 0 ∧ excErr N R x = 0 ∧ okF N R x = true ∧ flowV N R x f = lstF N R x := by
  obtain ⟨h1, h2, h3⟩ := prcErr_ok h
  obtain ⟨M, rfl, a, b, c, d, e, f1, g⟩ := flow_right h1
  refine ⟨h1, c, e, ?_⟩
  obtain ⟨g1, hg, hc⟩ := lstF_at e
  have := least_cheap b ((potB_iff R f p).1 h3) d hg
  omega
/-- the prices: how far the nodes are, from nowhere -/
def prcL (M : Nat) (R : List Road) (f : List Int) : List Int := (reachR M R f (List.replicate M 0)).at_
/-- a cheapest flow has a potential -/
theorem least_pot {M : Nat} {R : List Road} {x g : List Int} (he : excErr (M : Int) R x = 0) (hg : FlowR M R x g) (hc : costTo R g R.length ≤ lstF (M : Int) R x) : ∃ p, (netR R).arcs.Pot (stepsTo R g R.length) p := by
  have ho : okF (M : Int) R x = true := (okF_iff he).2 ⟨g, hg⟩
  obtain ⟨M', e, h2, h3, h4, h5, h6, h7, h8, h9⟩ := okF_flow ho
  obtain rfl : M = M' := by omega
  obtain ⟨p, hp⟩ := h5.inv.pot
  rw [h9] at h7 h8
  refine ⟨p, pot_all (netR_fine h3) (stepsR R _) (stepsR R g) (pot_of (stepsR R _) hp) h7.2.1 hg.2.1 (fun v hv => by rw [h7.2.2 v hv, hg.2.2 v hv]) ?_⟩
  rw [← costR, ← costR]; omega
/-- the prices that are made from a cheapest flow prove each cheapest flow -/
theorem prices_prove {M : Nat} {R : List Road} {x f g : List Int} (he : excErr (M : Int) R x = 0) (hf : FlowR M R x f) (hfc : costTo R f R.length ≤ lstF (M : Int) R x) (hg : FlowR M R x g) (hgc : costTo R g R.length ≤ lstF (M : Int) R x) : prcErr (M : Int) R x g (prcL M R f) = 0 := by
  obtain ⟨M', e, h2, h3, h4, h5⟩ := exc_nat he
  obtain rfl : M = M' := by omega
  obtain ⟨p, hp⟩ := least_pot he hf hfc
  have hz : ∀ v, gi (List.replicate M 0) v = 0 := fun v => by rw [gi_rep0]
  have hE := reachR_end h3 (f := f) (first := List.replicate M 0) (by simp) hp (fun v _ => by rw [hz]; unfold farR; omega)
  obtain ⟨v1, v2, v3⟩ := reachR_view h3 f (first := List.replicate M 0) (by simp)
  have hlt : ∀ v, v < M → gi (prcL M R f) v < farR := fun v hv => by
    have := hE.le v hv
    rw [hz] at this
    unfold prcL farR; omega
  have hIn := steps_in (netR_fine h3) (stepsR R f)
  have hpot : (netR R).arcs.Pot (stepsTo R f R.length) (gi (prcL M R f)) := fun s hs => by
    have := hE.sat s hs (hlt _ (hIn s hs).1)
    show gi (prcL M R f) _ ≤ _
    unfold prcL
    omega
  refine prcErr_mk ((flowErr_iff he).2 hg) (prcB_iff.2 ⟨v2, fun v hv => ?_⟩) ((potB_iff R g _).2 ?_)
  · obtain ⟨r, hr, _, h7, _, h8, h9⟩ := hE.bd hIn (K := 99) (by omega) (stepsR_ln h3 f) hv
    rw [hz] at h8 h9
    unfold prcL
    omega
  · exact pot_all (netR_fine h3) (stepsR R f) (stepsR R g) hpot hf.2.1 hg.2.1 (fun v hv => by rw [hf.2.2 v hv, hg.2.2 v hv]) (by
      have := lstF_le he hf
      rw [← costR, ← costR]; omega)
end Go.Proofs.Ytbejgbflipoboaa
