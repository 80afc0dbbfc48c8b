/- Plain words of roads: a net turned round, a toll at a node, and what they do to costs. No program in sight. -/
import Derived.Test.YtbejgbflipoboaaRH
namespace Go.Proofs.Ytbejgbflipoboaa
open Go.RowKit

theorem rdK_map (f : Road → Road) (R : List Road) {k : Nat} (h : k < R.length) : rdK (R.map f) k = f (rdK R k) := by
  rw [rdK_at (by simpa using h), rdK_at h]; simp
/-- the first k roads are changed -/
def mapTo (f : Road → Road) (R : List Road) (k : Nat) : List Road := (R.take k).map f ++ R.drop k
theorem mapTo_zero (f : Road → Road) (R : List Road) : mapTo f R 0 = R := by simp [mapTo]
theorem mapTo_all (f : Road → Road) (R : List Road) : mapTo f R R.length = R.map f := by simp [mapTo]
theorem mapTo_length (f : Road → Road) (R : List Road) (k : Nat) : (mapTo f R k).length = R.length := by simp [mapTo]; omega
theorem mapTo_at (f : Road → Road) (R : List Road) {k j : Nat} (hj : j < R.length) : (mapTo f R k)[j]? = some (if j < k then f R[j] else R[j]) := by
  unfold mapTo
  by_cases h : j < k
  · rw [List.getElem?_append_left (by simp; omega), if_pos h]
    simp [h, hj]
  · rw [List.getElem?_append_right (by simp; omega), if_neg h]
    simp only [List.length_map, List.length_take, List.getElem?_drop]
    rw [show k + (j - min k R.length) = j by omega]
    simp [hj]
theorem mapTo_set (f : Road → Road) (R : List Road) {k : Nat} (hk : k < R.length) : (mapTo f R k).set k (f R[k]) = mapTo f R (k + 1) := List.ext_getElem? fun j => by
  rw [List.getElem?_set]
  by_cases hj : j < R.length
  · rw [mapTo_at f R hj, mapTo_at f R hj, mapTo_length]
    by_cases e : k = j
    · subst e; simp [hk]
    · rw [if_neg e]
      by_cases h : j < k
      · rw [if_pos h, if_pos (by omega)]
      · rw [if_neg h, if_neg (by omega)]
  · rw [List.getElem?_eq_none (by rw [mapTo_length]; omega), List.getElem?_eq_none (by rw [mapTo_length]; omega), mapTo_length]
    by_cases e : k = j
    · subst e; omega
    · rw [if_neg e]
/-! two nets equal -/
def sameNet (N : Int) (R : List Road) (N' : Int) (R' : List Road) : Bool := decide (N = N') && decide (R = R')
/-! turned round -/
def revD (r : Road) : Road := ⟨r.to, r.fr, r.ln, r.wd⟩
def revN (N : Int) (R : List Road) : Int := if netErr N R = 0 then N else 0
def revL (N : Int) (R : List Road) : List Road := if netErr N R = 0 then R.map revD else []
theorem netErr_mk' {N : Int} {R : List Road} (h : NetOk N R) : netErr N R = 0 := by
  unfold netErr
  rw [if_pos (withinB_iff.2 h.n1), if_neg (by have := h.r12; omega), if_pos]
  refine all_yes fun k hk => ?_
  have h1 := h.fr k hk
  have h2 := h.to k hk
  have h3 := h.ne k hk
  have h4 := h.ln k hk
  have h5 := h.wd k hk
  simp only [roadOk, Bool.and_eq_true, withinB_iff, Bool.not_eq_true', decide_eq_false_iff_not]
  exact ⟨h1, h2, h3, h4, h5⟩
theorem rev_ok {N : Int} {R : List Road} (h : NetOk N R) : NetOk N (R.map revD) := by
  refine ⟨h.n1, by simpa using h.r12, fun k hk => ?_, fun k hk => ?_, fun k hk => ?_, fun k hk => ?_, fun k hk => ?_⟩ <;> simp only [List.length_map] at hk <;> simp only [List.getElem_map, revD]
  · exact h.to k hk
  · exact h.fr k hk
  · exact fun e => h.ne k hk e.symm
  · exact h.ln k hk
  · exact h.wd k hk
def negL (x : List Int) : List Int := x.map fun v => -v
theorem gi_neg (x : List Int) (v : Nat) : gi (negL x) v = -gi x v := by
  unfold gi negL
  rw [List.getElem?_map]
  cases x[v]? <;> simp
theorem exc_mk {M : Nat} {R : List Road} {x : List Int} (h : NetOk (M : Int) R) (hl : x.length = M) (hb : ∀ j, j < x.length → -30 ≤ gi x j ∧ gi x j ≤ 30) (hs : sumN (gi x) x.length = 0) : excErr (M : Int) R x = 0 := by
  unfold excErr
  rw [if_neg (by simp [netErr_mk' h]), if_pos, if_pos (by rw [sumR_N]; exact hs)]
  refine ⟨all_yes fun j hj => ?_, by omega⟩
  have := hb j hj
  rw [gi_at hj] at this
  exact withinB_iff.2 this
theorem rev_exc {M : Nat} {R : List Road} {x : List Int} (h : excErr (M : Int) R x = 0) : excErr (M : Int) (R.map revD) (negL x) = 0 := by
  obtain ⟨h1, h2, h3, h4⟩ := excErr_ok h
  have hl : (negL x).length = x.length := by simp [negL]
  refine exc_mk (rev_ok (netErr_ok h1)) (by omega) (fun j hj => ?_) ?_
  · have := h3 j (by omega)
    rw [gi_neg]; omega
  · rw [hl, sumN_congr (g := fun v => (-1) * gi x v) (fun v _ => by rw [gi_neg]; omega), sumN_mul, ← sumR_N, h4]; rfl
theorem rev_out (R : List Road) (f : Nat → Int) (v : Nat) : (netR (R.map revD)).out f v = -(netR R).out f v := by
  have hl : (netR (R.map revD)).K = (netR R).K := by simp [netR]
  unfold NetG.out
  rw [hl]
  have := sumN_mul (-1) (fun k => f k * (one ((netR R).fr k) v - one ((netR R).to k) v)) (netR R).K
  rw [show -(sumN (fun k => f k * (one ((netR R).fr k) v - one ((netR R).to k) v)) (netR R).K) = -1 * sumN (fun k => f k * (one ((netR R).fr k) v - one ((netR R).to k) v)) (netR R).K by omega, ← this]
  refine sumN_congr fun k hk => ?_
  have e : rdK (R.map revD) k = revD (rdK R k) := rdK_map revD R hk
  simp only [netR, e, revD]
  grind
theorem rev_flow {M : Nat} {R : List Road} {x g : List Int} : FlowR M R x g ↔ FlowR M (R.map revD) (negL x) g := by
  unfold FlowR
  have hfs : (netR (R.map revD)).Fs (gi g) ↔ (netR R).Fs (gi g) := by
    unfold NetG.Fs
    have hl : (netR (R.map revD)).K = R.length := by simp [netR]
    rw [hl]
    refine forall_congr' fun k => forall_congr' fun hk => ?_
    have e : rdK (R.map revD) k = revD (rdK R k) := rdK_map revD R hk
    simp only [netR, e, revD]
  rw [hfs, List.length_map]
  refine and_congr_right fun _ => and_congr_right fun _ => forall_congr' fun v => forall_congr' fun hv => ?_
  rw [rev_out, gi_neg]
  omega
theorem rev_cost (R : List Road) (g : List Int) : costTo (R.map revD) g (R.map revD).length = costTo R g R.length := by
  unfold costTo
  rw [List.length_map]
  exact sumR_congr (n := R.length) (fun k hk => by rw [rdK_map revD R hk]; rfl) _ (Nat.le_refl _)
theorem rev_least {M : Nat} {R : List Road} {x : List Int} (h : excErr (M : Int) R x = 0) : okF (M : Int) R x = okF (M : Int) (R.map revD) (negL x) ∧ lstF (M : Int) R x = lstF (M : Int) (R.map revD) (negL x) := by
  obtain ⟨h1, h2⟩ := lstF_eq h (rev_exc h) 0 (fun g hg => ⟨g, rev_flow.1 hg, by rw [rev_cost]; omega⟩) (fun g hg => ⟨g, rev_flow.2 hg, by rw [rev_cost]; omega⟩)
  refine ⟨h1, ?_⟩
  cases hb : okF (M : Int) R x with
  | true => have := h2 hb; omega
  | false =>
    have hb' := hb
    rw [h1] at hb'
    have z : ∀ R' y, okF (M : Int) R' y = false → lstF (M : Int) R' y = 0 := fun R' y h => by unfold lstF; rw [h]; rfl
    rw [z _ _ hb, z _ _ hb']
/-! a toll -/
def tolLn (node by_ : Int) (r : Road) : Int := if r.to = node then r.ln + by_ else if r.fr = node then r.ln - by_ else r.ln
def tolD (node by_ : Int) (r : Road) : Road := ⟨r.fr, r.to, tolLn node by_ r, r.wd⟩
def touch (node : Int) (r : Road) : Bool := decide (r.fr = node) || decide (r.to = node)
def tolOk (node by_ : Int) (r : Road) : Bool := !touch node r || (withinB by_ (-99) 99 && withinB (tolLn node by_ r) 0 99)
def tolErr (N : Int) (R : List Road) (node by_ : Int) : Int := if netErr N R ≠ 0 then netErr N R else if withinB node 0 (N - 1) then (if R.all (tolOk node by_) then 0 else 1) else 4
def tolN (N : Int) (R : List Road) (node by_ : Int) : Int := if tolErr N R node by_ = 0 then N else 0
def tolL (N : Int) (R : List Road) (node by_ : Int) : List Road := if tolErr N R node by_ = 0 then R.map (tolD node by_) else []
theorem tolErr_ok {N : Int} {R : List Road} {node by_ : Int} (h : tolErr N R node by_ = 0) : NetOk N R ∧ (0 ≤ node ∧ node ≤ N - 1) ∧ ∀ k, (hk : k < R.length) → tolOk node by_ R[k] = true := by
  unfold tolErr at h
  by_cases h1 : netErr N R = 0
  · rw [if_neg (by simpa using h1)] at h
    by_cases h2 : withinB node 0 (N - 1) = true
    · rw [if_pos h2] at h
      by_cases h3 : R.all (tolOk node by_) = true
      · exact ⟨netErr_ok h1, withinB_iff.1 h2, fun k hk => all_at h3 hk⟩
      · rw [if_neg h3] at h; simp at h
    · rw [if_neg h2] at h; simp at h
  · rw [if_pos h1] at h; exact absurd h h1
theorem tol_same {node by_ : Int} {r : Road} (h : touch node r = false) : tolD node by_ r = r := by
  unfold touch at h
  rw [Bool.or_eq_false_iff, decide_eq_false_iff_not, decide_eq_false_iff_not] at h
  unfold tolD tolLn
  rw [if_neg h.2, if_neg h.1]
theorem tol_ok {N : Int} {R : List Road} {node by_ : Int} (h : NetOk N R) (ht : ∀ k, (hk : k < R.length) → tolOk node by_ R[k] = true) : NetOk N (R.map (tolD node by_)) := by
  refine ⟨h.n1, by simpa using h.r12, fun k hk => ?_, fun k hk => ?_, fun k hk => ?_, fun k hk => ?_, fun k hk => ?_⟩ <;> simp only [List.length_map] at hk <;> simp only [List.getElem_map]
  · exact h.fr k hk
  · exact h.to k hk
  · exact h.ne k hk
  · have h1 := ht k hk
    have h2 := h.ln k hk
    by_cases hc : touch node R[k] = true
    · unfold tolOk at h1
      rw [hc] at h1
      simp only [Bool.not_true, Bool.false_or, Bool.and_eq_true] at h1
      exact withinB_iff.1 h1.2
    · rw [tol_same (by simpa using hc)]; exact h2
  · exact h.wd k hk
theorem tol_out (node by_ : Int) (R : List Road) (f : Nat → Int) (v : Nat) : (netR (R.map (tolD node by_))).out f v = (netR R).out f v := by
  have hl : (netR (R.map (tolD node by_))).K = (netR R).K := by simp [netR]
  unfold NetG.out
  rw [hl]
  refine sumN_congr fun k hk => ?_
  have e : rdK (R.map (tolD node by_)) k = tolD node by_ (rdK R k) := rdK_map _ R hk
  simp only [netR, e, tolD]
theorem tol_flow {M : Nat} {R : List Road} {x g : List Int} (node by_ : Int) : FlowR M R x g ↔ FlowR M (R.map (tolD node by_)) x g := by
  unfold FlowR
  have hfs : (netR (R.map (tolD node by_))).Fs (gi g) ↔ (netR R).Fs (gi g) := by
    unfold NetG.Fs
    have hl : (netR (R.map (tolD node by_))).K = R.length := by simp [netR]
    rw [hl]
    refine forall_congr' fun k => forall_congr' fun hk => ?_
    have e : rdK (R.map (tolD node by_)) k = tolD node by_ (rdK R k) := rdK_map _ R hk
    simp only [netR, e, tolD]
  rw [hfs, List.length_map]
  refine and_congr_right fun _ => and_congr_right fun _ => forall_congr' fun v => forall_congr' fun hv => ?_
  rw [tol_out]
theorem tol_cost {M : Nat} {R : List Road} {x g : List Int} (hok : NetOk (M : Int) R) {a : Nat} (ha : a < M) (by_ : Int) (hg : FlowR M R x g) : costTo (R.map (tolD a by_)) g (R.map (tolD a by_)).length = costTo R g R.length + -(by_ * gi x a) := by
  have h1 := sum_out (netR_fine hok) (fun v => one a v) (gi g)
  have h2 : sumN (fun v => one a v * (netR R).out (gi g) v) M = (netR R).out (gi g) a := by
    rw [← sum_one (fun v => (netR R).out (gi g) v) ha]
    exact sumN_congr fun v _ => Int.mul_comm _ _
  rw [h2, hg.2.2 a ha] at h1
  rw [h1, costR, costR]
  unfold NetG.cost
  have hl : (netR (R.map (tolD a by_))).K = (netR R).K := by simp [netR]
  rw [hl, ← Int.neg_mul, ← sumN_mul, ← sumN_add]
  refine sumN_congr fun k hk => ?_
  have e : rdK (R.map (tolD a by_)) k = tolD a by_ (rdK R k) := rdK_map _ R hk
  have hk' : k < R.length := hk
  have f1 := hok.fr k hk'
  have f2 := hok.to k hk'
  have f3 := hok.ne k hk'
  simp only [netR, e, tolD, tolLn]
  rw [rdK_at hk']
  generalize R[k].fr = p at *
  generalize R[k].to = q at *
  generalize R[k].ln = d at *
  unfold one
  by_cases c1 : q = (a : Int)
  · rw [if_pos c1, if_neg (show ¬ a = p.toNat by omega), if_pos (show a = q.toNat by omega)]; grind
  · by_cases c2 : p = (a : Int)
    · rw [if_neg c1, if_pos c2, if_pos (show a = p.toNat by omega), if_neg (show ¬ a = q.toNat by omega)]; grind
    · rw [if_neg c1, if_neg c2, if_neg (show ¬ a = p.toNat by omega), if_neg (show ¬ a = q.toNat by omega)]; grind
theorem tol_exc {M : Nat} {R : List Road} {x : List Int} {node by_ : Int} (h1 : NetOk (M : Int) R) (h2 : NetOk (M : Int) (R.map (tolD node by_))) : excErr (M : Int) (R.map (tolD node by_)) x = excErr (M : Int) R x := by
  unfold excErr
  rw [netErr_mk' h1, netErr_mk' h2]
theorem tol_least {N : Int} {R : List Road} {x : List Int} {node by_ : Int} (ht : tolErr N R node by_ = 0) :
    excErr N (R.map (tolD node by_)) x = excErr N R x ∧ okF N (R.map (tolD node by_)) x = okF N R x ∧ (okF N R x = true → lstF N (R.map (tolD node by_)) x = lstF N R x - by_ * gi x node.toNat ∧ (gi x node.toNat ≠ 0 → -99 ≤ by_ ∧ by_ ≤ 99) ∧ node.toNat < x.length) ∧ (okF N R x = false → lstF N R x = 0 ∧ lstF N (R.map (tolD node by_)) x = 0) := by
  obtain ⟨h1, h2, h3⟩ := tolErr_ok ht
  have hn := h1.n1
  obtain ⟨M, rfl⟩ := Int.eq_ofNat_of_zero_le (show 0 ≤ N by omega)
  obtain ⟨a, rfl⟩ := Int.eq_ofNat_of_zero_le h2.1
  have h4 := tol_ok h1 h3
  have h5 := tol_exc (x := x) h1 h4
  rw [Int.toNat_natCast]
  have hzero : ∀ R', okF (M : Int) R' x = false → lstF (M : Int) R' x = 0 := fun R' h => by unfold lstF; rw [h]; rfl
  by_cases he : excErr (M : Int) R x = 0
  · have he' : excErr (M : Int) (R.map (tolD a by_)) x = 0 := by rw [h5]; exact he
    obtain ⟨k1, k2⟩ := lstF_eq he he' (-(by_ * gi x a)) (fun g hg => ⟨g, (tol_flow _ _).1 hg, tol_cost h1 (by omega) by_ hg⟩) (fun g hg => ⟨g, (tol_flow _ _).2 hg, tol_cost h1 (by omega) by_ ((tol_flow _ _).2 hg)⟩)
    refine ⟨h5, k1.symm, fun hb => ⟨by have := k2 hb; omega, fun hx => ?_, by have := (excErr_ok he).2.1; omega⟩, fun hb => ⟨hzero _ hb, hzero _ (by rw [← k1]; exact hb)⟩⟩
    obtain ⟨M', e, _, _, _, _, _, hf, _⟩ := okF_flow hb
    obtain rfl : M = M' := by omega
    refine Classical.byContradiction fun hn => hx ?_
    rw [← hf.2.2 a (by omega)]
    unfold NetG.out
    rw [sumN_congr (g := fun _ => 0) (fun k hk => ?_), sumN_zero]
    have hk' : k < R.length := hk
    have h6 := h3 k hk'
    have h7 : touch (a : Int) R[k] = false := by
      cases ht : touch (a : Int) R[k] with
      | false => rfl
      | true =>
        unfold tolOk at h6
        rw [ht] at h6
        simp only [Bool.not_true, Bool.false_or, Bool.and_eq_true] at h6
        exact absurd (withinB_iff.1 h6.1) hn
    unfold touch at h7
    rw [Bool.or_eq_false_iff, decide_eq_false_iff_not, decide_eq_false_iff_not] at h7
    have f1 := h1.fr k hk'
    have f2 := h1.to k hk'
    simp only [netR, rdK_at hk']
    unfold one
    rw [if_neg (by omega), if_neg (by omega)]; simp
  · have hb : ∀ R', excErr (M : Int) R' x ≠ 0 → okF (M : Int) R' x = false := fun R' h => by unfold okF; simp [h]
    have b1 := hb R he
    have b2 := hb (R.map (tolD a by_)) (by rw [h5]; exact he)
    exact ⟨h5, by rw [b1, b2], fun h => by rw [b1] at h; simp at h, fun _ => ⟨hzero _ b1, hzero _ b2⟩⟩
end Go.Proofs.Ytbejgbflipoboaa
