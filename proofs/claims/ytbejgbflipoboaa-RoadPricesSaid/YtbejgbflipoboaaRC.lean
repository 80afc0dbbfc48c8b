/- Plain words of roads: how far the nodes are along steps; bounds. No program in sight. -/
import Derived.Test.YtbejgbflipoboaaRB
namespace Go.Proofs.Ytbejgbflipoboaa
open Go.RowKit

structure RsOk (M c : Nat) (st : RS) : Prop where
  la : st.at_.length = M
  lb : st.by_.length = M
  bd : ∀ i, i < M → -((c : Int) * 99) ≤ gi st.at_ i ∧ gi st.at_ i ≤ 1099511627776
theorem RsOk.mono {M c c' : Nat} {st : RS} (h : RsOk M c st) (hc : c ≤ c') : RsOk M c' st := ⟨h.la, h.lb, fun i hi => by have := h.bd i hi; omega⟩
theorem relax_ok {M c : Nat} {R : List Road} {st : RS} {s : Int} (hok : NetOk (M : Int) R) (hs : StepIn R.length s) (h : RsOk M c st) : RsOk M (c + 1) (relax R st s) := by
  unfold relax
  split
  · rename_i hc
    have hf := stFr_bd hok hs
    have ht := stTo_bd hok hs
    have hl := stLn_bd hok hs
    have h1 := h.bd (stFr R s).toNat (by omega)
    refine ⟨by simp [h.la], by simp [h.lb], fun i hi => ?_⟩
    show -(((c + 1 : Nat) : Int) * 99) ≤ gi (st.at_.set _ _) i ∧ gi (st.at_.set _ _) i ≤ _
    rw [gi_set _ _ _ _ (by rw [h.la]; omega)]
    have h2 := h.bd i hi
    have h3 := h.bd (stTo R s).toNat (by omega)
    split <;> omega
  · exact h.mono (by omega)
theorem fold_ok {M : Nat} {R : List Road} {L : List Int} (hok : NetOk (M : Int) R) (hL : ∀ s ∈ L, StepIn R.length s) {c : Nat} {st : RS} (h : RsOk M c st) : ∀ q, q ≤ L.length → RsOk M (c + q) ((L.take q).foldl (relax R) st)
  | 0, _ => h
  | q + 1, hq => by
    rw [List.take_succ_eq_append_getElem (by omega), List.foldl_append]
    exact relax_ok hok (hL _ (List.getElem_mem _)) (fold_ok hok hL h q (by omega))
theorem last_ok {M c : Nat} {st : RS} (h : RsOk M c st) (v : Int) : RsOk M c { st with last := v } := ⟨h.la, h.lb, h.bd⟩
theorem reachTo_ok {M : Nat} {R : List Road} {L : List Int} (hok : NetOk (M : Int) R) (hL : ∀ s ∈ L, StepIn R.length s) (hl : L.length ≤ 24) {st : RS} (h : RsOk M 0 st) : ∀ j, RsOk M (j * 24) (reachTo R L st j)
  | 0 => by rw [Nat.zero_mul]; exact h
  | j + 1 => by
    have h1 := fold_ok hok hL (last_ok (reachTo_ok hok hL hl h j) (-1)) L.length (Nat.le_refl _)
    rw [List.take_length] at h1
    exact h1.mono (by omega)
/-- the state within a round: q steps are done -/
def inRound (R : List Road) (L : List Int) (st : RS) (q : Nat) : RS := (L.take q).foldl (relax R) { st with last := -1 }
theorem inRound_zero (R : List Road) (L : List Int) (st : RS) : inRound R L st 0 = { st with last := -1 } := rfl
theorem inRound_succ {R : List Road} {L : List Int} {q : Nat} (hq : q < L.length) (st : RS) : inRound R L st (q + 1) = relax R (inRound R L st q) L[q] := by
  unfold inRound; rw [List.take_succ_eq_append_getElem hq, List.foldl_append]; rfl
theorem inRound_all (R : List Road) (L : List Int) (st : RS) : inRound R L st L.length = roundR R L st := by unfold inRound roundR; rw [List.take_length]
theorem relax_no1 {R : List Road} {st : RS} {s : Int} (h : ¬ gi st.at_ (stFr R s).toNat < 1099511627776) : relax R st s = st := by
  unfold relax; rw [if_neg (fun h2 => h h2.1)]
theorem relax_no2 {R : List Road} {st : RS} {s : Int} (h : ¬ gi st.at_ (stFr R s).toNat + stLn R s < gi st.at_ (stTo R s).toNat) : relax R st s = st := by
  unfold relax; rw [if_neg (fun h2 => h h2.2)]
theorem relax_yes {R : List Road} {st : RS} {s : Int} (h1 : gi st.at_ (stFr R s).toNat < 1099511627776) (h2 : gi st.at_ (stFr R s).toNat + stLn R s < gi st.at_ (stTo R s).toNat) :
    relax R st s = ⟨st.at_.set (stTo R s).toNat (gi st.at_ (stFr R s).toNat + stLn R s), st.by_.set (stTo R s).toNat s, stTo R s⟩ := by
  unfold relax; rw [if_pos ⟨h1, h2⟩]
end Go.Proofs.Ytbejgbflipoboaa
