/- Plain words of cells: one pixel more, and all of them; what share hands back. -/
import Derived.Test.YtodlbgncdggimaaP11
namespace Go.Proofs.Ytodlbgncdggimaa
open Go.RowKit

/-- the best site whose share is not full, of the first k -/
def bestS (left far : List Int) : Nat → Int
  | 0 => -1
  | k + 1 => if 0 < gi left k ∧ (bestS left far k < 0 ∨ gi far k < gi far (bestS left far k).toNat) then (k : Int) else bestS left far k
theorem bestS_bd (left far : List Int) : ∀ k, -1 ≤ bestS left far k ∧ bestS left far k < k
  | 0 => by simp [bestS]
  | k + 1 => by
    have := bestS_bd left far k
    simp only [bestS]
    split <;> omega
theorem bestS_no {left far : List Int} : ∀ {k : Nat}, bestS left far k < 0 → ∀ v, v < k → ¬ 0 < gi left v
  | 0, _, v, hv => by omega
  | k + 1, h, v, hv => by
    simp only [bestS] at h
    split at h
    · omega
    · rename_i hn
      by_cases e : v = k
      · subst e; exact fun h2 => hn ⟨h2, .inl h⟩
      · exact bestS_no h v (by omega)
theorem bestS_yes {left far : List Int} : ∀ {k : Nat}, 0 ≤ bestS left far k → (bestS left far k).toNat < k ∧ 0 < gi left (bestS left far k).toNat
  | 0, h => by simp [bestS] at h
  | k + 1, h => by
    simp only [bestS] at h ⊢
    split
    · rename_i hn; exact ⟨by omega, by simpa using hn.1⟩
    · rename_i hn
      rw [if_neg hn] at h
      have := bestS_yes h
      exact ⟨by omega, this.2⟩
theorem bestS_1 {left far : List Int} {k : Nat} (h : ¬ 0 < gi left k) : bestS left far (k + 1) = bestS left far k := by simp only [bestS]; rw [if_neg (fun h2 => h h2.1)]
theorem bestS_2 {left far : List Int} {k : Nat} (h : 0 < gi left k) (h2 : bestS left far k < 0) : bestS left far (k + 1) = k := by simp only [bestS]; rw [if_pos ⟨h, .inl h2⟩]
theorem bestS_3 {left far : List Int} {k q : Nat} (h : 0 < gi left k) (h2 : bestS left far k = q) (h3 : gi far k < gi far q) : bestS left far (k + 1) = k := by simp only [bestS]; rw [if_pos ⟨h, .inr (by rw [h2, Int.toNat_natCast]; exact h3)⟩]
theorem bestS_4 {left far : List Int} {k q : Nat} (h2 : bestS left far k = q) (h3 : ¬ gi far k < gi far q) : bestS left far (k + 1) = bestS left far k := by
  simp only [bestS]
  rw [if_neg]
  rintro ⟨_, h | h⟩
  · omega
  · rw [h2, Int.toNat_natCast] at h; exact h3 h
/-! the state between two pixels -/
structure ShOk (l : List Site) (wd ht : Nat) (S : List Int) (m : Nat) (O left : List Int) : Prop where
  len : O.length = m
  own : OwnIn O l.length
  fits : ∃ p, FitsTo (dC l wd) (oF O) m l.length p
  ll : left.length = l.length
  lf : ∀ i, i < l.length → gi left i = gi S i - cntO (oF O) i m ∧ 0 ≤ gi left i
theorem sumN_one : ∀ n, sumN (fun _ => (1 : Int)) n = n
  | 0 => rfl
  | n + 1 => by simp only [sumN]; rw [sumN_one n]; omega
theorem cnt_total {O : Nat → Nat} {m n : Nat} (h : ∀ k, k < m → O k < n) : sumN (fun i => cntO O i m) n = m := by
  have h1 := wgt_cnt (fun _ => 1) O n m h
  have h2 : ∀ m, wgtO (fun _ => (1 : Int)) O m = m := by
    intro m
    induction m with
    | zero => rfl
    | succ m ih => simp only [wgtO]; rw [ih]; omega
  rw [h2] at h1
  rw [h1]
  exact sumN_congr fun i _ => by omega
theorem sumN_list (S : List Int) : ∀ k, k ≤ S.length → sumN (gi S) k = (S.take k).sum
  | 0, _ => by simp [sumN]
  | k + 1, hk => by
    simp only [sumN]
    rw [sumN_list S k (by omega), List.take_succ_eq_append_getElem (by omega), List.sum_append, gi_at (by omega)]; simp
section
variable {l : List Site} {wd ht m : Nat} {S O left : List Int}
theorem ShOk.some_left (h : ShOk l wd ht S m O left) (hS : S.length = l.length) (hsum : S.sum = (wd * ht : Nat)) (hm : m < wd * ht) : ∃ i, i < l.length ∧ 0 < gi left i := by
  refine Classical.byContradiction fun hn => ?_
  have h1 : sumN (gi left) l.length = sumN (fun _ => 0) l.length := sumN_congr fun i hi => by
    have := (h.lf i hi).2
    have h2 : ¬ 0 < gi left i := fun h3 => hn ⟨i, hi, h3⟩
    omega
  rw [sumN_zero] at h1
  have h2 := cnt_total (O := oF O) (m := m) (n := l.length) (fun k hk => (oF_lt h.own (by rw [h.len]; exact hk)).1)
  have h3 : sumN (gi S) l.length = sumN (fun i => gi left i + cntO (oF O) i m) l.length := sumN_congr fun i hi => by have := (h.lf i hi).1; omega
  rw [sumN_add, h1, h2, sumN_list S _ (by omega), List.take_of_length_le (by omega), hsum] at h3
  omega
theorem ShOk.full (h : ShOk l wd ht S (wd * ht) O left) (hS : S.length = l.length) (hsum : S.sum = (wd * ht : Nat)) : ∀ i, i < l.length → cntO (oF O) i (wd * ht) = gi S i := by
  have h2 := cnt_total (O := oF O) (m := wd * ht) (n := l.length) (fun k hk => (oF_lt h.own (by rw [h.len]; exact hk)).1)
  have h3 : sumN (gi S) l.length = sumN (fun i => gi left i + cntO (oF O) i (wd * ht)) l.length := sumN_congr fun i hi => by have := (h.lf i hi).1; omega
  rw [sumN_add, h2, sumN_list S _ (by omega), List.take_of_length_le (by omega), hsum] at h3
  intro i hi
  have h4 := sumN_all0 (f := gi left) (n := l.length) (fun i hi => (h.lf i hi).2) (by omega) i hi
  have := (h.lf i hi).1
  omega
theorem sh_start (hS : S.length = l.length) (h0 : ∀ i, i < l.length → 0 ≤ gi S i) : ShOk l wd ht S 0 [] S :=
  ⟨rfl, fun j hj => by simp at hj, ⟨fun _ => 0, fun k hk => by omega⟩, hS, fun i hi => ⟨by simp [cntO], h0 i hi⟩⟩
/-- the walk back, in lists -/
def walkL (m : Nat) (st : CS) (O : List Int) (F v : Nat) (Oc : List Int) : Option (Nat → Nat) := walkO (viewC st).by_ (cArcs (dC l wd) (oF O)).fr m F v (oF Oc)
theorem walk_step {p : Nat → Int} {st : CS} {F v : Nat} {Oc : List Int} {O' : Nat → Nat} (hG : Good l wd ht m O p st) (hOc : Oc.length = m + 1) (hv : v < l.length) (h : walkO (viewC st).by_ (cArcs (dC l wd) (oF O)).fr m F v (oF Oc) = some O') :
    ∃ F', F = F' + 1 ∧ ((gp st.by_ v = (-1, (m : Int)) ∧ O' = oF (Oc.set m v)) ∨ ∃ k, k < m ∧ gp st.by_ v = ((oF O k : Int), (k : Int)) ∧ walkO (viewC st).by_ (cArcs (dC l wd) (oF O)).fr m F' (oF O k) (oF (Oc.set k v)) = some O') := by
  cases F with
  | zero => simp [walkO] at h
  | succ F =>
    refine ⟨F, rfl, ?_⟩
    simp only [walkO] at h
    rcases hG.by_ v hv with e | ⟨k, hk, e⟩
    · left
      refine ⟨e, ?_⟩
      have eb : (viewC st).by_ v = none := by simp [viewC, e]
      rw [eb] at h
      injection h with h
      rw [oF_set (by omega)]; exact h.symm
    · right
      refine ⟨k, hk, e, ?_⟩
      have eb : (viewC st).by_ v = some (k, v) := by simp [viewC, e]
      rw [eb] at h
      rw [oF_set (by omega)]
      exact h
/-- the chain from the best site: it ends, and what it leaves -/
theorem walk_all {p : Nat → Int} {st : CS} (hc : CellOk l wd ht) (hm : m < wd * ht) (h : ShOk l wd ht S m O left) (hG : Good l wd ht m O p st) (hs : (cArcs (dC l wd) (oF O)).Sat farC (cList m l.length) (viewC st).at_) {v : Nat} (hv : v < l.length) (hl : 0 < gi left v) :
    ∃ O', walkO (viewC st).by_ (cArcs (dC l wd) (oF O)).fr m l.length v (oF (O ++ [-1])) = some O' ∧ ∀ O2 : List Int, O2.length = m + 1 → (∀ k, k < m + 1 → gi O2 k = (O' k : Int)) → ShOk l wd ht S (m + 1) O2 (left.set v (gi left v - 1)) := by
  have hO : ∀ k, k < m → oF O k < l.length := fun k hk => (oF_lt h.own (by rw [h.len]; exact hk)).1
  have hfar : ∀ v, v < l.length → (viewC st).at_ v < farC := fun v hv => by
    have := hG.hi hc hm hv
    have e : (viewC st).at_ v = gi st.at_ v := rfl
    unfold farC; omega
  have hE := hG.run.end_ hs
  -- the list with one place more is the same function below m, but for the place m, which no walk reads
  obtain ⟨O', e1, e2, e3, e4⟩ := share_more hO hE hfar hv
  have hlen := h.len
  have eo : oF (O ++ [-1]) = oF O := funext fun k => by
    unfold oF gi
    by_cases hk : k < O.length
    · rw [List.getElem?_append_left hk]
    · rw [List.getElem?_append_right (by omega), List.getElem?_eq_none (l := O) (by omega)]
      cases e : k - O.length with
      | zero => simp
      | succ q => simp
  refine ⟨O', by rw [eo]; exact e1, fun O2 h2 h3 => ?_⟩
  have eO2 : ∀ k, k < m + 1 → oF O2 k = O' k := fun k hk => by unfold oF; rw [h3 k hk, Int.toNat_natCast]
  have ecnt : ∀ i, ∀ q, q ≤ m + 1 → cntO (oF O2) i q = cntO O' i q := by
    intro i q
    induction q with
    | zero => intro _; rfl
    | succ q ih => intro hq; simp only [cntO]; rw [ih (by omega), eO2 q (by omega)]
  refine ⟨h2, fun j hj => ⟨O' j, by rw [← gi_at hj]; exact h3 j (by omega), e3 j (by omega)⟩, ⟨(viewC st).at_, fun k hk => by rw [eO2 k hk]; exact e2 k hk⟩, by rw [List.length_set]; exact h.ll, fun i hi => ?_⟩
  rw [gi_set _ _ _ _ (by rw [h.ll]; exact hv), ecnt i _ (Nat.le_refl _), e4 i]
  obtain ⟨l1, l2⟩ := h.lf i hi
  by_cases e : v = i
  · subst e
    rw [if_pos rfl, if_pos rfl]; omega
  · rw [if_neg e, if_neg (fun h => e h.symm)]; omega
end
/-- what share hands back -/
structure ShareOf (l : List Site) (wd ht : Nat) (S O : List Int) : Prop where
  len : O.length = wd * ht
  own : OwnIn O l.length
  fits : ∃ p, FitsTo (dC l wd) (oF O) (wd * ht) l.length p
  cnt : ∀ i, i < l.length → cntO (oF O) i (wd * ht) = gi S i
theorem ShOk.share {l : List Site} {wd ht : Nat} {S O left : List Int} (h : ShOk l wd ht S (wd * ht) O left) (hS : S.length = l.length) (hsum : S.sum = (wd * ht : Nat)) : ShareOf l wd ht S O := ⟨h.len, h.own, h.fits, h.full hS hsum⟩
/-- two such lists of owners cost the same -/
theorem share_same {l : List Site} {wd ht : Nat} {S O O2 : List Int} (h : ShareOf l wd ht S O) (h2 : ShareOf l wd ht S O2) : costTo l wd O (wd * ht) = costTo l wd O2 (wd * ht) := by
  rw [cost_c, cost_c]
  obtain ⟨p, hp⟩ := h.fits
  obtain ⟨p2, hp2⟩ := h2.fits
  have a : ∀ k, k < wd * ht → oF O k < l.length := fun k hk => (oF_lt h.own (by rw [h.len]; exact hk)).1
  have b : ∀ k, k < wd * ht → oF O2 k < l.length := fun k hk => (oF_lt h2.own (by rw [h2.len]; exact hk)).1
  have h3 := fits_least hp a b (fun i hi => by rw [h.cnt i hi, h2.cnt i hi])
  have h4 := fits_least hp2 b a (fun i hi => by rw [h.cnt i hi, h2.cnt i hi])
  omega
end Go.Proofs.Ytodlbgncdggimaa
