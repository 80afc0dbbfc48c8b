/- Plain words of roads: steps along roads and back, what a flow allows. No program in sight. -/
import Derived.Test.YtbejgbflipoboaaRA
namespace Go.Proofs.Ytbejgbflipoboaa
open Go.RowKit

/-- the number of the road of a step k + 1 or -(k + 1) -/
def stepNo (s : Int) : Nat := (max s (-s) - 1).toNat
def StepIn (n : Nat) (s : Int) : Prop := 1 ≤ max s (-s) ∧ max s (-s) ≤ n
theorem stepNo_lt {n : Nat} {s : Int} (h : StepIn n s) : stepNo s < n := by unfold stepNo; have := h.1; have := h.2; omega
theorem stepNo_cast {n : Nat} {s : Int} (h : StepIn n s) : ((stepNo s : Nat) : Int) = max s (-s) - 1 := by unfold stepNo; have := h.1; omega
def stFr (R : List Road) (s : Int) : Int := if s < 0 then (rdK R (stepNo s)).to else (rdK R (stepNo s)).fr
def stTo (R : List Road) (s : Int) : Int := if s < 0 then (rdK R (stepNo s)).fr else (rdK R (stepNo s)).to
def stLn (R : List Road) (s : Int) : Int := if s < 0 then -(rdK R (stepNo s)).ln else (rdK R (stepNo s)).ln
theorem stFr_bd {N : Int} {R : List Road} (h : NetOk N R) {s : Int} (hs : StepIn R.length s) : 0 ≤ stFr R s ∧ stFr R s ≤ N - 1 := by
  have hk := stepNo_lt hs
  unfold stFr; rw [rdK_at hk]
  have h1 := h.fr _ hk
  have h2 := h.to _ hk
  split <;> omega
theorem stTo_bd {N : Int} {R : List Road} (h : NetOk N R) {s : Int} (hs : StepIn R.length s) : 0 ≤ stTo R s ∧ stTo R s ≤ N - 1 := by
  have hk := stepNo_lt hs
  unfold stTo; rw [rdK_at hk]
  have h1 := h.fr _ hk
  have h2 := h.to _ hk
  split <;> omega
theorem stLn_bd {N : Int} {R : List Road} (h : NetOk N R) {s : Int} (hs : StepIn R.length s) : -99 ≤ stLn R s ∧ stLn R s ≤ 99 := by
  have hk := stepNo_lt hs
  unfold stLn; rw [rdK_at hk]
  have h1 := h.ln _ hk
  split <;> omega
/-- the steps that a flow allows on the first k roads -/
def stepsTo (R : List Road) (f : List Int) : Nat → List Int
  | 0 => []
  | k + 1 => (stepsTo R f k ++ if gi f k < (rdK R k).wd then [(k : Int) + 1] else []) ++ if 0 < gi f k then [-(k : Int) - 1] else []
theorem stepsTo_in (R : List Road) (f : List Int) : ∀ k, ∀ s ∈ stepsTo R f k, StepIn k s
  | 0, s, h => by simp [stepsTo] at h
  | k + 1, s, h => by
    have mono : StepIn k s → StepIn (k + 1) s := fun h => ⟨h.1, by have := h.2; omega⟩
    simp only [stepsTo, List.mem_append] at h
    rcases h with (h | h) | h
    · exact mono (stepsTo_in R f k s h)
    · split at h
      · simp at h; subst h; constructor <;> omega
      · simp at h
    · split at h
      · simp at h; subst h; constructor <;> omega
      · simp at h
theorem stepsTo_length (R : List Road) (f : List Int) : ∀ k, (stepsTo R f k).length ≤ 2 * k
  | 0 => by simp [stepsTo]
  | k + 1 => by
    have ih := stepsTo_length R f k
    simp only [stepsTo, List.length_append]
    split <;> split <;> simp <;> omega
/-- the flow changed by 1 along a step -/
def turnF (f : List Int) (s : Int) : List Int := if s < 0 then addAt f (stepNo s) (-1) else addAt f (stepNo s) 1
theorem turnF_length (f : List Int) (s : Int) : (turnF f s).length = f.length := by unfold turnF; split <;> exact addAt_length _ _ _
/-! how far: what 'reach' does -/
def farR : Int := 1099511627776
structure RS where
  at_ : List Int
  by_ : List Int
  last : Int
def relax (R : List Road) (st : RS) (s : Int) : RS :=
  if gi st.at_ (stFr R s).toNat < farR ∧ gi st.at_ (stFr R s).toNat + stLn R s < gi st.at_ (stTo R s).toNat then
    ⟨st.at_.set (stTo R s).toNat (gi st.at_ (stFr R s).toNat + stLn R s), st.by_.set (stTo R s).toNat s, stTo R s⟩ else st
def roundR (R : List Road) (L : List Int) (st : RS) : RS := L.foldl (relax R) { st with last := -1 }
def reachTo (R : List Road) (L : List Int) (st : RS) : Nat → RS
  | 0 => st
  | n + 1 => roundR R L (reachTo R L st n)
def reachR (N : Nat) (R : List Road) (f first : List Int) : RS := reachTo R (stepsTo R f R.length) ⟨first, List.replicate N 0, 0⟩ N
end Go.Proofs.Ytbejgbflipoboaa
