/- Plain words of roads: what Exists, Least and Cheapest hand back. No program in sight. -/
import Derived.Test.YtbejgbflipoboaaRG
namespace Go.Proofs.Ytbejgbflipoboaa
open Go.RowKit

def okF (N : Int) (R : List Road) (x : List Int) : Bool := decide (excErr N R x = 0) && okB N.toNat R x
def lstF (N : Int) (R : List Road) (x : List Int) : Int := if okF N R x then costTo R (shipV N.toNat R x).1 R.length else 0
def cheapF (N : Int) (R : List Road) (x : List Int) : List Int := if okF N R x then (shipV N.toNat R x).1 else []
/-- the number of nodes is a natural number -/
theorem exc_nat {N : Int} {R : List Road} {x : List Int} (h : excErr N R x = 0) : ∃ M : Nat, N = M ∧ x.length = M ∧ NetOk (M : Int) R ∧ 1 ≤ M ∧ M ≤ 6 := by
  obtain ⟨h1, h2, _⟩ := excErr_ok h
  have hok := netErr_ok h1
  have hn := hok.n1
  refine ⟨x.length, h2.symm, rfl, by rw [h2]; exact hok, by omega, by omega⟩
theorem okF_flow {N : Int} {R : List Road} {x : List Int} (h : okF N R x = true) : ∃ M : Nat, N = M ∧ x.length = M ∧ NetOk (M : Int) R ∧ excErr (M : Int) R x = 0 ∧ ShipOk M R x ∧ okB M R x = true ∧ FlowR M R x (cheapF N R x) ∧ lstF N R x = costTo R (cheapF N R x) R.length ∧ cheapF N R x = (shipV M R x).1 := by
  unfold lstF cheapF
  rw [if_pos h, if_pos h]
  unfold okF at h
  rw [Bool.and_eq_true, decide_eq_true_eq] at h
  obtain ⟨M, rfl, h2, h3, _⟩ := exc_nat h.1
  have h4 := h.2
  simp only [Int.toNat_natCast] at h4 ⊢
  exact ⟨M, rfl, h2, h3, h.1, ship_ok h.1, h4, ok_flow (ship_ok h.1) h4, by trivial, by trivial⟩
theorem okF_iff {M : Nat} {R : List Road} {x : List Int} (he : excErr (M : Int) R x = 0) : okF (M : Int) R x = true ↔ ∃ g, FlowR M R x g := by
  rw [← okB_flow he]
  unfold okF
  simp [he]
/-- the least is the least -/
theorem lstF_le {M : Nat} {R : List Road} {x g : List Int} (he : excErr (M : Int) R x = 0) (hg : FlowR M R x g) : lstF (M : Int) R x ≤ costTo R g R.length := by
  have ho : okF (M : Int) R x = true := (okF_iff he).2 ⟨g, hg⟩
  obtain ⟨M', e, h2, h3, h4, h5, h6, h7, h8, h9⟩ := okF_flow ho
  obtain rfl : M = M' := by omega
  rw [h8, h9]
  exact ok_least h3 h5 h6 hg
/-- two nets, two excesses: flows of one are flows of the other, at a cost that is d more -/
theorem lstF_eq {M M' : Nat} {R R' : List Road} {x x' : List Int} (he : excErr (M : Int) R x = 0) (he' : excErr (M' : Int) R' x' = 0) (d : Int) (h1 : ∀ g, FlowR M R x g → ∃ g', FlowR M' R' x' g' ∧ costTo R' g' R'.length = costTo R g R.length + d) (h2 : ∀ g', FlowR M' R' x' g' → ∃ g, FlowR M R x g ∧ costTo R' g' R'.length = costTo R g R.length + d) :
    okF (M : Int) R x = okF (M' : Int) R' x' ∧ (okF (M : Int) R x = true → lstF (M' : Int) R' x' = lstF (M : Int) R x + d) := by
  have ho : okF (M : Int) R x = okF (M' : Int) R' x' := by
    rw [Bool.eq_iff_iff, okF_iff he, okF_iff he']
    constructor
    · rintro ⟨g, hg⟩; obtain ⟨g', hg', _⟩ := h1 g hg; exact ⟨g', hg'⟩
    · rintro ⟨g, hg⟩; obtain ⟨g', hg', _⟩ := h2 g hg; exact ⟨g', hg'⟩
  refine ⟨ho, fun ht => ?_⟩
  have ht' := ht
  rw [ho] at ht'
  obtain ⟨M1, e1, _, _, _, _, _, a1, a2, _⟩ := okF_flow ht
  obtain rfl : M = M1 := by omega
  obtain ⟨M2, e2, _, _, _, _, _, b1, b2, _⟩ := okF_flow ht'
  obtain rfl : M' = M2 := by omega
  obtain ⟨g', hg', c1⟩ := h1 _ a1
  obtain ⟨g, hg, c2⟩ := h2 _ b1
  have d1 := lstF_le he' hg'
  have d2 := lstF_le he hg
  omega
end Go.Proofs.Ytbejgbflipoboaa
