/- Plain words of roads: the program's distances (a map), and what they say of costs. No program in sight. -/
import Derived.Test.YtbejgbflipoboaaRL
import Derived.Test.YtbejgbflipoboaaMapO
namespace Go.Proofs.Ytbejgbflipoboaa
open Go.RowKit

/-- labels as a map: what is far is not in it -/
def mapOf (l : List Int) : Int → Option Int := fun x => if 0 ≤ x ∧ x.toNat < l.length ∧ gi l x.toNat ≠ farW then some (gi l x.toNat) else none
theorem mapOf_at {l : List Int} {u : Nat} (h : u < l.length) : mapOf l (u : Int) = if gi l u = farW then none else some (gi l u) := by
  unfold mapOf
  rw [Int.toNat_natCast]
  by_cases e : gi l u = farW
  · rw [if_pos e, if_neg (fun h => h.2.2 e)]
  · rw [if_neg e, if_pos ⟨by omega, h, e⟩]
theorem mapOf_set {l : List Int} {t : Nat} {v : Int} (h : t < l.length) (hv : v ≠ farW) (x : Int) : mapOf (l.set t v) x = updO (mapOf l) t v x := by
  unfold updO
  by_cases e : x = t
  · subst e
    rw [if_pos rfl, mapOf_at (by simpa using h), gi_set _ _ _ _ h, if_pos rfl, if_neg hv]
  · rw [if_neg e]
    unfold mapOf
    by_cases h0 : 0 ≤ x
    · have : t ≠ x.toNat := by omega
      rw [gi_set _ _ _ _ h, if_neg this, List.length_set]
    · rw [if_neg (fun h => h0 h.1), if_neg (fun h => h0 h.1)]
theorem mapOf_start {N a : Nat} (h : a < N) (x : Int) : mapOf (startW N a).at_ x = updO (fun _ => none) a 0 x := by
  unfold startW
  rw [mapOf_set (by simpa using h) (by unfold farW; omega)]
  unfold updO
  split
  · rfl
  · unfold mapOf
    rw [if_neg]
    rintro ⟨_, h2, h3⟩
    rw [List.length_replicate] at h2
    exact h3 (by unfold gi; rw [List.getElem?_replicate, if_pos h2]; rfl)
/-- labels while the roads are gone through -/
structure FwOk (M c : Nat) (l : List Int) : Prop where
  la : l.length = M
  nr : ∀ i, i < M → gi l i = farW ∨ (0 ≤ gi l i ∧ gi l i ≤ (c : Int) * 99)
theorem FwOk.mono {M c c' : Nat} {l : List Int} (h : FwOk M c l) (hc : c ≤ c') : FwOk M c' l := ⟨h.la, fun i hi => by have := h.nr i hi; omega⟩
theorem fwd_at {n q : Nat} (h : q < n) : gi (fwdL n) q = (q : Int) + 1 := by
  rw [gi_at (by simpa [fwdL] using h)]; simp [fwdL]
theorem fwd_length (n : Nat) : (fwdL n).length = n := by simp [fwdL]
theorem fwd_ends {R : List Road} {q : Nat} (h : q < R.length) : stFr R (gi (fwdL R.length) q) = R[q].fr ∧ stTo R (gi (fwdL R.length) q) = R[q].to ∧ stLn R (gi (fwdL R.length) q) = R[q].ln := by
  rw [fwd_at h]
  unfold stFr stTo stLn
  rw [if_neg (by omega), if_neg (by omega), if_neg (by omega), show stepNo ((q : Int) + 1) = q by unfold stepNo; omega, rdK_at h]
  exact ⟨rfl, rfl, rfl⟩
/-- one road, told for the map -/
theorem fwd_no1 {R : List Road} {st : WS} {q : Nat} (h : q < R.length) (h1 : gi st.at_ R[q].fr.toNat = farW) : relaxW R (fwdL R.length) st q = st := by
  obtain ⟨e1, e2, e3⟩ := fwd_ends h
  exact relaxW_far (by rw [e1, h1]; omega)
where relaxW_far {L : List Int} {i : Nat} (h : ¬ gi st.at_ (stFr R (gi L i)).toNat < farW) : relaxW R L st i = st := by unfold relaxW; rw [if_neg (fun h2 => h h2.1)]
theorem fwd_no2 {R : List Road} {st : WS} {q : Nat} (h : q < R.length) (h2 : ¬ gi st.at_ R[q].fr.toNat + R[q].ln < gi st.at_ R[q].to.toNat) : relaxW R (fwdL R.length) st q = st := by
  obtain ⟨e1, e2, e3⟩ := fwd_ends h
  unfold relaxW
  rw [e1, e2, e3, if_neg (fun h3 => h2 h3.2)]
theorem fwd_yes {R : List Road} {st : WS} {q : Nat} (h : q < R.length) (h1 : gi st.at_ R[q].fr.toNat < farW) (h2 : gi st.at_ R[q].fr.toNat + R[q].ln < gi st.at_ R[q].to.toNat) : (relaxW R (fwdL R.length) st q).at_ = st.at_.set R[q].to.toNat (gi st.at_ R[q].fr.toNat + R[q].ln) := by
  obtain ⟨e1, e2, e3⟩ := fwd_ends h
  unfold relaxW
  rw [e1, e2, e3, if_pos ⟨h1, h2⟩]
theorem fwd_relax {M c : Nat} {R : List Road} {st : WS} {q : Nat} (hok : NetOk (M : Int) R) (h : q < R.length) (hk : FwOk M c st.at_) : FwOk M (c + 1) (relaxW R (fwdL R.length) st q).at_ := by
  by_cases h1 : gi st.at_ R[q].fr.toNat < farW
  · by_cases h2 : gi st.at_ R[q].fr.toNat + R[q].ln < gi st.at_ R[q].to.toNat
    · rw [fwd_yes h h1 h2]
      have hf := hok.fr q h
      have ht := hok.to q h
      have hl := hok.ln q h
      have h3 := hk.nr R[q].fr.toNat (by omega)
      refine ⟨by rw [List.length_set]; exact hk.la, fun i hi => ?_⟩
      rw [gi_set _ _ _ _ (by rw [hk.la]; omega)]
      have := hk.nr i hi
      split <;> omega
    · rw [fwd_no2 h h2]; exact hk.mono (by omega)
  · have hf := hok.fr q h
    have h3 := hk.nr R[q].fr.toNat (by omega)
    obtain ⟨e1, _, _⟩ := fwd_ends h
    unfold relaxW
    rw [e1, if_neg (fun h2 => h1 h2.1)]
    exact hk.mono (by omega)
theorem fwd_in {M c : Nat} {R : List Road} {st : WS} (hok : NetOk (M : Int) R) (hk : FwOk M c st.at_) : ∀ q, q ≤ R.length → FwOk M (c + q) (inW R (fwdL R.length) st q).at_
  | 0, _ => hk
  | q + 1, h => fwd_relax hok (by omega) (fwd_in hok hk q (by omega))
theorem fwd_ways {M : Nat} {R : List Road} {st : WS} (hok : NetOk (M : Int) R) (hk : FwOk M 0 st.at_) : ∀ j, FwOk M (j * 12) (waysTo R (fwdL R.length) st j).at_
  | 0 => by rw [Nat.zero_mul]; exact hk
  | j + 1 => by
    have h12 := hok.r12
    have := fwd_in hok (fwd_ways hok hk j) R.length (Nat.le_refl _)
    show FwOk M _ (inW R (fwdL R.length) _ (fwdL R.length).length).at_
    rw [fwd_length]
    exact this.mono (by omega)
theorem fwd_start {M a : Nat} (ha : a < M) : FwOk M 0 (startW M a).at_ := by
  refine ⟨by simp [startW], fun i hi => ?_⟩
  simp only [startW]
  rw [gi_set _ _ _ _ (by simpa using ha)]
  have : gi (List.replicate M farW) i = farW := by unfold gi; rw [List.getElem?_replicate, if_pos hi]; rfl
  rw [this]
  split
  · right; omega
  · left; rfl
/-- what is told of a label -/
theorem unfar_map {l : List Int} {i : Nat} (h : i < l.length) : unfar (gi l i) = match mapOf l (i : Int) with | some d => d | none => -1 := by
  rw [mapOf_at h]
  unfold unfar
  split <;> rfl
theorem distL_length {M a : Nat} {R : List Road} : (distL M R a).length = (distW M R a).length := by simp [distL]
theorem ways_len {R : List Road} {L : List Int} {st : WS} : ∀ n, (waysTo R L st n).at_.length = st.at_.length := by
  have h1 : ∀ (st : WS) i, (relaxW R L st i).at_.length = st.at_.length := fun st i => by unfold relaxW; split <;> simp
  have h2 : ∀ (st : WS) q, (inW R L st q).at_.length = st.at_.length := fun st q => by
    induction q with
    | zero => rfl
    | succ q ih => rw [inW, h1, ih]
  intro n
  induction n with
  | zero => rfl
  | succ n ih => rw [waysTo, h2, ih]
theorem distW_length {M a : Nat} {R : List Road} : (distW M R a).length = M := by
  unfold distW waysR; rw [ways_len]; simp [startW]
theorem distL_at {M a i : Nat} {R : List Road} (h : i < M) : gi (distL M R a) i = unfar (gi (distW M R a) i) := by
  rw [gi_at (by rw [distL_length, distW_length]; exact h), gi_at (by rw [distW_length]; exact h)]
  simp [distL]
/-! what the distances say of costs -/
theorem sat_chain {M : Nat} {R : List Road} (hok : NetOk (M : Int) R) {d : Nat → Int} (hs : (netR R).arcs.Sat farW (fwdL R.length) d) (hd : ∀ v, v < M → d v = farW ∨ (0 ≤ d v ∧ d v ≤ 495)) {b : Nat → Option Int} (hb : ∀ v, v < M → ∀ s, b v = some s → s ∈ fwdL R.length ∧ (netR R).arcs.to s = v) {k v : Nat} {l : List Int} (hc : Chn (netR R).arcs b k l v) :
    k < M → d v < farW → d k < farW ∧ d k ≤ d v + sumLn (netR R).arcs l := by
  induction hc with
  | nil _ => intro _ h; simp only [sumLn]; omega
  | @cons k s l v h1 h2 ih =>
    intro hk hv
    obtain ⟨e1, e2⟩ := hb k hk s h1
    have hin := in_fwd hok s e1
    obtain ⟨i1, i2⟩ := ih hin.1 hv
    have h3 := hs s e1 i1
    have h4 := ln_fwd hok s e1
    rw [e2] at h3
    have h5 := hd _ hin.1
    have h6 := hd k hk
    simp only [sumLn]
    unfold farW at *
    constructor <;> omega
/-- from a road's beginning, nothing is farther than from its end and along it -/
theorem dist_tri {M : Nat} {R : List Road} (hok : NetOk (M : Int) R) {q k : Nat} (hq : q < R.length) (hk : k < M) : gi (distW M R R[q].fr.toNat) k ≤ R[q].ln + gi (distW M R R[q].to.toNat) k := by
  have hf := hok.fr q hq
  have ht := hok.to q hq
  have hl := hok.ln q hq
  have hu : R[q].fr.toNat < M := by omega
  have hv : R[q].to.toNat < M := by omega
  have du := dist_ok hok hu
  have dv := dist_ok hok hv
  have eu := dist_end hok hu
  have ev := dist_end hok hv
  have hin := in_fwd hok
  rcases dv.near k hk with h1 | h1
  · rcases du.near k hk with h2 | h2
    · omega
    · unfold farW at *; omega
  · obtain ⟨l, r, hc⟩ := ev.ends k hk
    obtain ⟨t1, t2, t3, t4, t5⟩ := ev.tele hin hk hc
    have hlt : gi (distW M R R[q].to.toNat) k < farW := by unfold farW; omega
    have h6 := t5 hlt
    have h7 : r = R[q].to.toNat := by
      refine Classical.byContradiction fun hn => ?_
      have : firstW R[q].to.toNat r = farW := by unfold firstW; rw [if_neg hn]
      omega
    subst h7
    have h8 := du.road q hq (by rw [du.zero]; unfold farW; omega)
    rw [du.zero] at h8
    have h9 := du.near R[q].to.toNat hv
    have h10 := sat_chain hok eu.sat du.near (fun v hv s hs => by
      obtain ⟨a1, a2, _⟩ := ev.edge v hv s hs
      exact ⟨a1, a2⟩) hc hk (by unfold farW at *; omega)
    unfold firstW at t4
    rw [if_pos rfl] at t4
    omega
/-- how far the next node is that lacks some, of the first k -/
def nearD (M : Nat) (R : List Road) (x : List Int) (v : Nat) : Nat → Int
  | 0 => farW
  | k + 1 => if gi x k < 0 ∧ gi (distW M R v) k < nearD M R x v k then gi (distW M R v) k else nearD M R x v k
theorem nearD_le {M : Nat} {R : List Road} {x : List Int} {v : Nat} : ∀ {n k : Nat}, k < n → gi x k < 0 → nearD M R x v n ≤ gi (distW M R v) k
  | n + 1, k, h, hx => by
    simp only [nearD]
    rcases Nat.lt_succ_iff_lt_or_eq.1 h with h | rfl
    · have := nearD_le (M := M) (R := R) (v := v) h hx
      split <;> omega
    · split
      · omega
      · rename_i hn
        have : ¬ gi (distW M R v) k < nearD M R x v k := fun h2 => hn ⟨hx, h2⟩
        omega
theorem nearD_at {M : Nat} {R : List Road} {x : List Int} {v : Nat} : ∀ n, nearD M R x v n = farW ∨ ∃ k, k < n ∧ gi x k < 0 ∧ nearD M R x v n = gi (distW M R v) k
  | 0 => .inl rfl
  | n + 1 => by
    simp only [nearD]
    split
    · rename_i h; exact .inr ⟨n, by omega, h.1, rfl⟩
    · rcases nearD_at (M := M) (R := R) (x := x) (v := v) n with h | ⟨k, h1, h2, h3⟩
      · exact .inl h
      · exact .inr ⟨k, by omega, h2, h3⟩
theorem nearD_le_far {M : Nat} {R : List Road} {x : List Int} {v : Nat} : ∀ n, nearD M R x v n ≤ farW
  | 0 => Int.le_refl _
  | n + 1 => by
    have := nearD_le_far (M := M) (R := R) (x := x) (v := v) n
    simp only [nearD]
    split <;> omega
theorem nearD_tri {M : Nat} {R : List Road} (hok : NetOk (M : Int) R) {x : List Int} {q : Nat} (hq : q < R.length) : nearD M R x R[q].fr.toNat M ≤ R[q].ln + nearD M R x R[q].to.toNat M := by
  have hl := hok.ln q hq
  rcases nearD_at (M := M) (R := R) (x := x) (v := R[q].to.toNat) M with h | ⟨k, h1, h2, h3⟩
  · rw [h]
    have := nearD_le_far (M := M) (R := R) (x := x) (v := R[q].fr.toNat) M
    omega
  · rw [h3]
    have h4 := dist_tri hok hq h1
    have h5 := nearD_le (M := M) (R := R) (v := R[q].fr.toNat) h1 h2
    omega
theorem nearD_bd {M : Nat} {R : List Road} (hok : NetOk (M : Int) R) {x : List Int} {v : Nat} (hv : v < M) : nearD M R x v M = farW ∨ (0 ≤ nearD M R x v M ∧ nearD M R x v M ≤ 495) := by
  rcases nearD_at (M := M) (R := R) (x := x) (v := v) M with h | ⟨k, h1, h2, h3⟩
  · exact .inl h
  · rw [h3]; exact (dist_ok hok hv).near k h1
/-- what the distances allow, of the first k nodes -/
def boundD (M : Nat) (R : List Road) (x : List Int) : Nat → Int
  | 0 => 0
  | k + 1 => if gi x k ≤ 0 then boundD M R x k else boundD M R x k + nearD M R x k M * gi x k
theorem boundD_sum {M : Nat} {R : List Road} (hok : NetOk (M : Int) R) {x : List Int} : ∀ k, k ≤ M → boundD M R x k = sumN (fun v => nearD M R x v M * gi x v) k
  | 0, _ => rfl
  | k + 1, hk => by
    simp only [boundD, sumN]
    rw [boundD_sum hok k (by omega)]
    by_cases h : gi x k ≤ 0
    · rw [if_pos h]
      rcases Int.lt_or_eq_of_le h with h | h
      · have h1 := nearD_le (M := M) (R := R) (v := k) (show k < M by omega) h
        have h2 := (dist_ok hok (show k < M by omega)).zero
        have h3 := nearD_bd hok (x := x) (show k < M by omega)
        have : nearD M R x k M = 0 := by unfold farW at *; omega
        rw [this]; omega
      · rw [h]; omega
    · rw [if_neg h]
theorem narrow {M : Nat} {R : List Road} (hok : NetOk (M : Int) R) {x f : List Int} (hf : FlowR M R x f) : boundD M R x M ≤ costTo R f R.length := by
  rw [boundD_sum hok M (Nat.le_refl _)]
  have h1 := sum_out (netR_fine hok) (fun v => nearD M R x v M) (gi f)
  rw [sumN_congr (g := fun v => nearD M R x v M * (netR R).out (gi f) v) (fun v hv => by rw [hf.2.2 v hv]), h1, costR]
  show _ ≤ sumN (fun k => (netR R).ln k * gi f k) (netR R).K
  refine sumN_le fun k hk => ?_
  have h2 := nearD_tri hok (x := x) (q := k) hk
  have h3 := hf.2.1 k hk
  simp only [netR, rdK_at (show k < R.length from hk)] at h3 ⊢
  rw [Int.mul_comm]
  exact Int.mul_le_mul_of_nonneg_right (by omega) h3.1
/-- where there is a flow, each node that has too much reaches one that lacks some -/
theorem narrow_some {M : Nat} {R : List Road} (hok : NetOk (M : Int) R) {x f : List Int} (hf : FlowR M R x f) {i : Nat} (hi : i < M) (hx : 0 < gi x i) : nearD M R x i M ≠ farW := fun h => by
  have hd := dist_ok hok hi
  refine dam_no hok (S := fun v => decide (gi (distW M R i) v < farW)) ?_ hf
  have hcut : (netR R).cut (fun v => decide (gi (distW M R i) v < farW)) = 0 := by
    unfold NetG.cut
    rw [sumN_congr (g := fun _ => 0) (fun k hk => ?_), sumN_zero]
    have hk2 : k < R.length := hk
    have hf := hok.fr k hk2
    have ht := hok.to k hk2
    have hl := hok.ln k hk2
    have h1 := hd.road k hk2
    have h2 := hd.near R[k].to.toNat (by omega)
    have h3 := hd.near R[k].fr.toNat (by omega)
    simp only [netR, rdK_at hk2]
    rw [if_neg]
    simp only [Bool.and_eq_true, Bool.not_eq_true', decide_eq_true_eq, decide_eq_false_iff_not]
    rintro ⟨a, b⟩
    have := h1 a
    unfold farW at *
    omega
  unfold NetG.Dam
  rw [hcut]
  have h4 := sumN_term (f := fun v => if decide (gi (distW M R i) v < farW) then gi x v else 0) (n := M) (fun v hv => by
    by_cases hc : gi (distW M R i) v < farW
    · rw [if_pos (by simpa using hc)]
      refine Classical.byContradiction fun hn => ?_
      have := nearD_le (M := M) (R := R) (v := i) hv (show gi x v < 0 by omega)
      omega
    · rw [if_neg (by simpa using hc)]; omega) hi
  rw [if_pos (by rw [decide_eq_true_eq, hd.zero]; unfold farW; omega)] at h4
  exact Int.lt_of_lt_of_le hx h4
/-- the search for the next node, as the statement makes it -/
def nearS (x l : List Int) : Nat → Int
  | 0 => -1
  | k + 1 => if gi x k < 0 ∧ 0 ≤ gi l k ∧ (nearS x l k < 0 ∨ gi l k < nearS x l k) then gi l k else nearS x l k
theorem nearS_eq {M : Nat} {R : List Road} (hok : NetOk (M : Int) R) {x : List Int} {v : Nat} (hv : v < M) : ∀ k, k ≤ M → nearS x (distL M R v) k = unfar (nearD M R x v k)
  | 0, _ => by simp [nearS, nearD, unfar]
  | k + 1, hk => by
    simp only [nearS, nearD]
    rw [nearS_eq hok hv k (by omega), distL_at (i := k) (by omega)]
    have h1 := (dist_ok hok hv).near k (by omega)
    have h2 : nearD M R x v k = farW ∨ (0 ≤ nearD M R x v k ∧ nearD M R x v k ≤ 495) := by
      rcases nearD_at (M := M) (R := R) (x := x) (v := v) k with h | ⟨j, a, b, c⟩
      · exact .inl h
      · rw [c]; exact (dist_ok hok hv).near j (by omega)
    have hu : ∀ C, C = farW ∨ (0 ≤ C ∧ C ≤ 495) → (C = farW ∧ unfar C = -1) ∨ (0 ≤ C ∧ C ≤ 495 ∧ unfar C = C) := fun C h => by
      unfold unfar farW at *
      rcases h with rfl | h
      · exact .inl ⟨rfl, if_pos rfl⟩
      · exact .inr ⟨h.1, h.2, if_neg (by omega)⟩
    have u1 := hu _ h1
    have u2 := hu _ h2
    generalize nearD M R x v k = A at *
    generalize gi (distW M R v) k = B at *
    unfold farW at *
    by_cases c : gi x k < 0 ∧ B < A
    · have hc : gi x k < 0 ∧ 0 ≤ unfar B ∧ (unfar A < 0 ∨ unfar B < unfar A) := by omega
      rw [if_pos c, if_pos hc]
    · have hc : ¬ (gi x k < 0 ∧ 0 ≤ unfar B ∧ (unfar A < 0 ∨ unfar B < unfar A)) := by omega
      rw [if_neg c, if_neg hc]
end Go.Proofs.Ytbejgbflipoboaa
