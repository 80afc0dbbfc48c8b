/- Plain words of roads: the reference's ways from a node, and its cheapest flow. No program in sight. -/
import Derived.Test.YtbejgbflipoboaaRecs2
import Derived.Test.YtbejgbflipoboaaRI
namespace Go.Proofs.Ytbejgbflipoboaa
open Go.RowKit

/-- a step as the reference keeps it -/
def arcOf (R : List Road) (s : Int) : Rarc := ⟨stFr R s, stTo R s, stLn R s, stepNo s, sg s⟩
def arcsOf (R : List Road) (L : List Int) : List Rarc := L.map (arcOf R)
def farW : Int := 1000000
structure WS where
  at_ : List Int
  by_ : List Int
def relaxW (R : List Road) (L : List Int) (st : WS) (i : Nat) : WS :=
  if gi st.at_ (stFr R (gi L i)).toNat < farW ∧ gi st.at_ (stFr R (gi L i)).toNat + stLn R (gi L i) < gi st.at_ (stTo R (gi L i)).toNat then
    ⟨st.at_.set (stTo R (gi L i)).toNat (gi st.at_ (stFr R (gi L i)).toNat + stLn R (gi L i)), st.by_.set (stTo R (gi L i)).toNat i⟩ else st
/-- within a round: the first q steps are done -/
def inW (R : List Road) (L : List Int) (st : WS) : Nat → WS
  | 0 => st
  | q + 1 => relaxW R L (inW R L st q) q
def waysTo (R : List Road) (L : List Int) (st : WS) : Nat → WS
  | 0 => st
  | n + 1 => inW R L (waysTo R L st n) L.length
def startW (N a : Nat) : WS := ⟨(List.replicate N farW).set a 0, List.replicate N (-1)⟩
def waysR (N : Nat) (R : List Road) (L : List Int) (a : Nat) : WS := waysTo R L (startW N a) N
/-! bounds -/
structure WsOk (M c n : Nat) (st : WS) : Prop where
  la : st.at_.length = M
  lb : st.by_.length = M
  bd : ∀ i, i < M → -((c : Int) * 99) ≤ gi st.at_ i ∧ gi st.at_ i ≤ 1000000
  by_ : ∀ i, i < M → -1 ≤ gi st.by_ i ∧ gi st.by_ i < n
theorem WsOk.mono {M c c' n : Nat} {st : WS} (h : WsOk M c n st) (hc : c ≤ c') : WsOk M c' n st := ⟨h.la, h.lb, fun i hi => by have := h.bd i hi; omega, h.by_⟩
theorem relaxW_ok {M c : Nat} {R : List Road} {L : List Int} {st : WS} {i : Nat} (hok : NetOk (M : Int) R) (hi : i < L.length) (hs : StepIn R.length (gi L i)) (h : WsOk M c L.length st) : WsOk M (c + 1) L.length (relaxW R L st i) := by
  unfold relaxW
  split
  · rename_i hc
    have hf := stFr_bd hok hs
    have ht := stTo_bd hok hs
    have hl := stLn_bd hok hs
    have h1 := h.bd (stFr R (gi L i)).toNat (by omega)
    have h3 := h.bd (stTo R (gi L i)).toNat (by omega)
    refine ⟨by simp [h.la], by simp [h.lb], fun j hj => ?_, fun j hj => ?_⟩
    · show -(((c + 1 : Nat) : Int) * 99) ≤ gi (st.at_.set _ _) j ∧ gi (st.at_.set _ _) j ≤ _
      rw [gi_set _ _ _ _ (by rw [h.la]; omega)]
      have h2 := h.bd j hj
      split <;> omega
    · show -1 ≤ gi (st.by_.set _ _) j ∧ gi (st.by_.set _ _) j < _
      rw [gi_set _ _ _ _ (by rw [h.lb]; omega)]
      have h2 := h.by_ j hj
      split <;> omega
  · exact h.mono (by omega)
theorem inW_ok {M c : Nat} {R : List Road} {L : List Int} {st : WS} (hok : NetOk (M : Int) R) (hL : ∀ s ∈ L, StepIn R.length s) (h : WsOk M c L.length st) : ∀ q, q ≤ L.length → WsOk M (c + q) L.length (inW R L st q)
  | 0, _ => h
  | q + 1, hq => relaxW_ok hok (by omega) (hL _ (by rw [gi_at (by omega)]; exact List.getElem_mem _)) (inW_ok hok hL h q (by omega))
theorem waysTo_ok {M : Nat} {R : List Road} {L : List Int} {st : WS} (hok : NetOk (M : Int) R) (hL : ∀ s ∈ L, StepIn R.length s) (hl : L.length ≤ 24) (h : WsOk M 0 L.length st) : ∀ j, WsOk M (j * 24) L.length (waysTo R L st j)
  | 0 => by rw [Nat.zero_mul]; exact h
  | j + 1 => (inW_ok hok hL (waysTo_ok hok hL hl h j) L.length (Nat.le_refl _)).mono (by omega)
theorem startW_ok {M a : Nat} (n : Nat) (ha : a < M) : WsOk M 0 n (startW M a) := by
  refine ⟨by simp [startW], by simp [startW], fun i hi => ?_, fun i hi => ?_⟩
  · simp only [startW]
    rw [gi_set _ _ _ _ (by simpa using ha)]
    have : gi (List.replicate M farW) i = farW := by unfold gi; rw [List.getElem?_replicate, if_pos hi]; rfl
    rw [this]
    unfold farW
    split <;> omega
  · simp only [startW]
    have : gi (List.replicate M (-1)) i = -1 := by unfold gi; rw [List.getElem?_replicate, if_pos hi]; rfl
    omega
/-! as labels along arcs -/
def viewB (L : List Int) (st : WS) : Nat → Option Int := fun v => if v < st.by_.length ∧ 0 ≤ gi st.by_ v then L[(gi st.by_ v).toNat]? else none
def SameLb (L : List Int) (st : WS) (lb : Lb Int) : Prop := gi st.at_ = lb.at_ ∧ viewB L st = lb.by_
theorem same_relax {M c : Nat} {R : List Road} {L : List Int} (hok : NetOk (M : Int) R) {st : WS} {lb : Lb Int} (h : SameLb L st lb) (hk : WsOk M c L.length st) {i : Nat} (hi : i < L.length) (hs : StepIn R.length (gi L i)) : SameLb L (relaxW R L st i) ((netR R).arcs.relax farW lb L[i]) := by
  obtain ⟨h1, h2⟩ := h
  have ht := stTo_bd hok hs
  have hgi : gi L i = L[i] := gi_at hi
  unfold relaxW Arcs.relax
  by_cases hc : gi st.at_ (stFr R (gi L i)).toNat < farW ∧ gi st.at_ (stFr R (gi L i)).toNat + stLn R (gi L i) < gi st.at_ (stTo R (gi L i)).toNat
  · rw [if_pos hc, if_pos (by unfold Arcs.Cond; rw [arcR_fr, arcR_to, arcR_ln, ← h1, ← hgi]; exact hc)]
    unfold SameLb Arcs.put
    rw [arcR_fr, arcR_to, arcR_ln, ← hgi]
    refine ⟨funext fun v => ?_, funext fun v => ?_⟩
    · simp only
      rw [gi_set _ _ _ _ (by rw [hk.la]; omega), ← h1]
      simp only [upd]
      by_cases e : v = (stTo R (gi L i)).toNat
      · rw [if_pos e, if_pos e.symm]
      · rw [if_neg e, if_neg (fun h => e h.symm)]
    · simp only [viewB, List.length_set]
      rw [gi_set _ _ _ _ (by rw [hk.lb]; omega), ← h2]
      simp only [upd, viewB]
      have hlb := hk.lb
      by_cases e : v = (stTo R (gi L i)).toNat
      · rw [if_pos e.symm, if_pos e, if_pos (by omega), Int.toNat_natCast, List.getElem?_eq_getElem hi, hgi]
      · have e2 : ¬ (stTo R (gi L i)).toNat = v := fun h => e h.symm
        rw [if_neg e2, if_neg e]
  · rw [if_neg hc, if_neg (by unfold Arcs.Cond; rw [arcR_fr, arcR_to, arcR_ln, ← h1, ← hgi]; exact hc)]
    exact ⟨h1, h2⟩
theorem same_in {M c : Nat} {R : List Road} {L : List Int} (hok : NetOk (M : Int) R) (hL : ∀ s ∈ L, StepIn R.length s) {st : WS} {lb : Lb Int} (h : SameLb L st lb) (hk : WsOk M c L.length st) : ∀ q, q ≤ L.length → SameLb L (inW R L st q) ((L.take q).foldl ((netR R).arcs.relax farW) lb)
  | 0, _ => h
  | q + 1, hq => by
    rw [List.take_succ_eq_append_getElem (by omega), List.foldl_append]
    exact same_relax hok (same_in hok hL h hk q (by omega)) (inW_ok hok hL hk q (by omega)) (by omega) (hL _ (by rw [gi_at (by omega)]; exact List.getElem_mem _))
theorem same_ways {M : Nat} {R : List Road} {L : List Int} (hok : NetOk (M : Int) R) (hL : ∀ s ∈ L, StepIn R.length s) (hl : L.length ≤ 24) {st : WS} {lb : Lb Int} (h : SameLb L st lb) (hk : WsOk M 0 L.length st) : ∀ n, SameLb L (waysTo R L st n) ((netR R).arcs.reach farW L lb n)
  | 0 => h
  | n + 1 => by
    have ih := same_ways hok hL hl h hk n
    have := same_in hok hL (lb := { (netR R).arcs.reach farW L lb n with last := -1 }) ⟨ih.1, ih.2⟩ (waysTo_ok hok hL hl hk n) L.length (Nat.le_refl _)
    rw [List.take_length] at this
    exact this
def firstW (a : Nat) : Nat → Int := fun v => if v = a then 0 else farW
/-- the reference's ways end where nothing gets shorter -/
theorem ways_end {M a : Nat} {R : List Road} {L : List Int} (hok : NetOk (M : Int) R) (hL : ∀ s ∈ L, StepIn R.length s) (hl : L.length ≤ 24) (ha : a < M) {p : Nat → Int} (hp : (netR R).arcs.Pot L p) :
    LEnd (netR R).arcs farW M L p (firstW a) (gi (waysR M R L a).at_) (viewB L (waysR M R L a)) := by
  have hin : (netR R).arcs.In M L := fun s hs => by
    have := hL s hs
    have h1 := stFr_bd hok this
    have h2 := stTo_bd hok this
    rw [arcR_fr, arcR_to]; omega
  have h0 : ∀ v, v < M → gi (startW M a).at_ v = firstW a v := fun v hv => by
    simp only [startW, firstW]
    rw [gi_set _ _ _ _ (by simpa using ha)]
    have : gi (List.replicate M farW) v = farW := by unfold gi; rw [List.getElem?_replicate, if_pos hv]; rfl
    rw [this]
    by_cases e : a = v
    · rw [if_pos e, if_pos e.symm]
    · rw [if_neg e, if_neg (fun h => e h.symm)]
  have hk := startW_ok L.length ha
  -- the state itself, not its told form, beyond the nodes
  have hs : SameLb L (startW M a) ⟨gi (startW M a).at_, fun _ => none, 0⟩ := ⟨rfl, funext fun v => by
    unfold viewB
    rw [if_neg]
    rintro ⟨h1, h2⟩
    have : gi (startW M a).by_ v = -1 := by
      simp only [startW, List.length_replicate] at h1 ⊢; unfold gi; rw [List.getElem?_replicate, if_pos h1]; rfl
    omega⟩
  have h1 := same_ways hok hL hl hs hk M
  have h2 := reach_end (A := (netR R).arcs) (far := farW) (p := p) (first := gi (startW M a).at_) hin hp (fun v hv => (hk.bd v hv).2) 0
  rw [← h1.1, ← h1.2] at h2
  exact ⟨h2.sat, h2.edge, fun v hv hb => by rw [← h0 v hv]; exact h2.root v hv hb, h2.ends, fun v hv => by rw [← h0 v hv]; exact h2.le v hv⟩
/-! how far the nodes are from one, by roads alone -/
def fwdL (n : Nat) : List Int := (List.range n).map fun (k : Nat) => (k : Int) + 1
theorem fwdL_in {n : Nat} : ∀ s ∈ fwdL n, StepIn n s := fun s hs => by
  unfold fwdL at hs
  obtain ⟨k, hk, rfl⟩ := List.mem_map.1 hs
  have := List.mem_range.1 hk
  constructor <;> omega
theorem fwd_pot {M : Nat} {R : List Road} (hok : NetOk (M : Int) R) : (netR R).arcs.Pot (fwdL R.length) (fun _ => 0) := fun s hs => by
  have h1 := fwdL_in s hs
  unfold fwdL at hs
  obtain ⟨k, hk, rfl⟩ := List.mem_map.1 hs
  have hk := List.mem_range.1 hk
  have h2 := hok.ln k hk
  rw [arcR_ln]
  unfold stLn
  rw [if_neg (by omega), show stepNo ((k : Int) + 1) = k by unfold stepNo; omega, rdK_at hk]
  show (0 : Int) ≤ R[k].ln + 0
  omega
def distW (N : Nat) (R : List Road) (a : Nat) : List Int := (waysR N R (fwdL R.length) a).at_
/-- what is far is told as -1 -/
def unfar (x : Int) : Int := if x = farW then -1 else x
def distL (N : Nat) (R : List Road) (a : Nat) : List Int := (distW N R a).map unfar
def distErr (N : Int) (R : List Road) (a : Int) : Int := if netErr N R ≠ 0 then netErr N R else if withinB a 0 (N - 1) then 0 else 4
def distV (N : Int) (R : List Road) (a : Int) : List Int := if distErr N R a = 0 then distL N.toNat R a.toNat else []
theorem distErr_ok {N : Int} {R : List Road} {a : Int} (h : distErr N R a = 0) : NetOk N R ∧ 0 ≤ a ∧ a ≤ N - 1 := by
  unfold distErr at h
  by_cases h1 : netErr N R = 0
  · rw [if_neg (by simpa using h1)] at h
    by_cases h2 : withinB a 0 (N - 1) = true
    · exact ⟨netErr_ok h1, withinB_iff.1 h2⟩
    · rw [if_neg h2] at h; simp at h
  · rw [if_pos h1] at h; exact absurd h h1
theorem dist_end {M a : Nat} {R : List Road} (hok : NetOk (M : Int) R) (ha : a < M) : LEnd (netR R).arcs farW M (fwdL R.length) (fun _ => 0) (firstW a) (gi (distW M R a)) (viewB (fwdL R.length) (waysR M R (fwdL R.length) a)) :=
  ways_end hok fwdL_in (by unfold fwdL; have := hok.r12; simp; omega) ha (fwd_pot hok)
/-- the labels of the reference, told: 0 at the beginning, near where a way leads, far elsewhere; no road makes them shorter -/
structure DistOk (M a : Nat) (R : List Road) (d : Nat → Int) : Prop where
  zero : d a = 0
  near : ∀ v, v < M → d v = farW ∨ (0 ≤ d v ∧ d v ≤ 495)
  road : ∀ k, (h : k < R.length) → d R[k].fr.toNat < farW → d R[k].to.toNat ≤ d R[k].fr.toNat + R[k].ln
theorem ln_fwd {M : Nat} {R : List Road} (hok : NetOk (M : Int) R) : ∀ s ∈ fwdL R.length, 0 ≤ (netR R).arcs.ln s ∧ (netR R).arcs.ln s ≤ 99 := fun s hs => by
  unfold fwdL at hs
  obtain ⟨k, hk, rfl⟩ := List.mem_map.1 hs
  have hk := List.mem_range.1 hk
  have h2 := hok.ln k hk
  rw [arcR_ln]
  unfold stLn
  rw [if_neg (by omega), show stepNo ((k : Int) + 1) = k by unfold stepNo; omega, rdK_at hk]
  omega
theorem in_fwd {M : Nat} {R : List Road} (hok : NetOk (M : Int) R) : (netR R).arcs.In M (fwdL R.length) := fun s hs => by
  have := fwdL_in s hs
  have h1 := stFr_bd hok this
  have h2 := stTo_bd hok this
  rw [arcR_fr, arcR_to]; omega
theorem tele_nonneg {α : Type} {A : Arcs α} {l : List α} (h : ∀ s ∈ l, 0 ≤ A.ln s) : 0 ≤ sumLn A l := by
  induction l with
  | nil => simp [sumLn]
  | cons s l ih =>
    have := ih (fun t ht => h t (List.mem_cons_of_mem _ ht))
    have := h s List.mem_cons_self
    simp only [sumLn]; omega
theorem dist_ok {M a : Nat} {R : List Road} (hok : NetOk (M : Int) R) (ha : a < M) : DistOk M a R (gi (distW M R a)) := by
  have hM := hok.n1
  have h := dist_end hok ha
  have hin := in_fwd hok
  have hnear : ∀ v, v < M → gi (distW M R a) v = farW ∨ (0 ≤ gi (distW M R a) v ∧ gi (distW M R a) v ≤ 495) := fun v hv => by
    obtain ⟨l, r, hc⟩ := h.ends v hv
    obtain ⟨h1, h2, h3, h4, h5⟩ := h.tele hin hv hc
    have h6 := tele_nonneg (A := (netR R).arcs) (l := l) (fun s hs => (ln_fwd hok s (h3 s hs)).1)
    have h7 := hc.short hin hv h3
    have h8 := sumLn_bd (A := (netR R).arcs) (l := l) (K := 99) (fun s hs => by have := ln_fwd hok s (h3 s hs); omega)
    have hle := h.le v hv
    unfold firstW at h4 hle
    by_cases hf : gi (distW M R a) v < farW
    · have h9 := h5 hf
      split at h4
      · right; omega
      · rw [h4] at h9; omega
    · left
      split at hle
      · unfold farW at *; omega
      · omega
  refine ⟨?_, hnear, fun k hk hf => ?_⟩
  · have h1 := h.le a ha
    unfold firstW at h1
    rw [if_pos rfl] at h1
    rcases hnear a ha with h2 | h2
    · unfold farW at h2; omega
    · omega
  · have hm : ((k : Int) + 1) ∈ fwdL R.length := List.mem_map.2 ⟨k, List.mem_range.2 hk, rfl⟩
    have h1 := h.sat _ hm
    rw [arcR_fr, arcR_to, arcR_ln] at h1
    unfold stFr stTo stLn at h1
    rw [if_neg (by omega), if_neg (by omega), if_neg (by omega), show stepNo ((k : Int) + 1) = k by unfold stepNo; omega, rdK_at hk] at h1
    exact h1 hf
end Go.Proofs.Ytbejgbflipoboaa
