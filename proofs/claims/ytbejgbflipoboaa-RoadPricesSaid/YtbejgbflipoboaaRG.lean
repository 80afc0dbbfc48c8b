/- Plain words of roads: a net of roads as a net of flows; ship ends, and what it hands back is a cheapest flow or leaves a barrier. No program in sight. -/
import Derived.Test.YtbejgbflipoboaaRF
import Derived.Test.YtbejgbflipoboaaGN
namespace Go.Proofs.Ytbejgbflipoboaa
open Go.RowKit

def netR (R : List Road) : NetG := ⟨R.length, fun k => (rdK R k).fr.toNat, fun k => (rdK R k).to.toNat, fun k => (rdK R k).ln, fun k => (rdK R k).wd⟩
theorem netR_fine {M : Nat} {R : List Road} (h : NetOk (M : Int) R) : (netR R).Fine M := fun k hk => by
  have h1 := h.fr k hk
  have h2 := h.to k hk
  simp only [netR, rdK_at hk]
  omega
theorem arcR_fr (R : List Road) (s : Int) : (netR R).arcs.fr s = (stFr R s).toNat := by
  simp only [NetG.arcs, netR, stFr, stepNo, eNo]; split <;> rfl
theorem arcR_to (R : List Road) (s : Int) : (netR R).arcs.to s = (stTo R s).toNat := by
  simp only [NetG.arcs, netR, stTo, stepNo, eNo]; split <;> rfl
theorem arcR_ln (R : List Road) (s : Int) : (netR R).arcs.ln s = stLn R s := rfl
theorem stepsTo_mem (R : List Road) (f : List Int) : ∀ (k : Nat) (s : Int), s ∈ stepsTo R f k ↔ (StepIn k s ∧ if s < 0 then 0 < gi f (eNo s) else gi f (eNo s) < (rdK R (eNo s)).wd)
  | 0, s => by simp only [stepsTo, List.not_mem_nil, false_iff]; rintro ⟨h, _⟩; have := h.1; have := h.2; omega
  | k + 1, s => by
    simp only [stepsTo, List.mem_append]
    rw [stepsTo_mem R f k s]
    constructor
    · rintro ((⟨h1, h2⟩ | h) | h)
      · exact ⟨⟨h1.1, by have := h1.2; omega⟩, h2⟩
      · split at h
        · rename_i hc
          simp at h; subst h
          exact ⟨⟨by omega, by omega⟩, by rw [if_neg (by omega), eNo_pos]; exact hc⟩
        · simp at h
      · split at h
        · rename_i hc
          simp at h; subst h
          exact ⟨⟨by omega, by omega⟩, by rw [if_pos (by omega), eNo_neg]; exact hc⟩
        · simp at h
    · rintro ⟨h1, h2⟩
      by_cases hk : max s (-s) ≤ k
      · exact .inl (.inl ⟨⟨h1.1, hk⟩, h2⟩)
      · have h3 := h1.1
        have h4 := h1.2
        by_cases hs : s < 0
        · rw [if_pos hs] at h2
          have e : s = -(k : Int) - 1 := by omega
          subst e
          rw [eNo_neg] at h2
          rw [if_pos h2]
          exact .inr (by simp)
        · rw [if_neg hs] at h2
          have e : s = (k : Int) + 1 := by omega
          subst e
          rw [eNo_pos] at h2
          rw [if_pos h2]
          exact .inl (.inr (by simp))
theorem stepsR (R : List Road) (f : List Int) : (netR R).Steps (gi f) (stepsTo R f R.length) := fun s => stepsTo_mem R f R.length s
theorem sumR_N (f : Nat → Int) : ∀ n, sumR f n = sumN f n
  | 0 => rfl
  | n + 1 => by simp only [sumR, sumN]; rw [sumR_N]
theorem costR (R : List Road) (f : List Int) : costTo R f R.length = (netR R).cost (gi f) := sumR_N _ _
theorem outR {M : Nat} {R : List Road} (h : NetOk (M : Int) R) (f : List Int) (v : Nat) : ∀ j, j ≤ R.length → gi (leaveTo M R f j) v = sumN (fun k => gi f k * (one ((netR R).fr k) v - one ((netR R).to k) v)) j
  | 0, _ => by
    have : gi (List.replicate M 0) v = 0 := by unfold gi; rw [List.getElem?_replicate]; split <;> rfl
    simp only [leaveTo, this, sumN]
  | j + 1, hj => by
    have ih := outR h f v j (by omega)
    have h3 := h.fr j (by omega)
    have h4 := h.to j (by omega)
    simp only [leaveTo, sumN]
    rw [← ih]
    simp only [netR]
    rw [rdK_at (by omega), gi_addAt (by rw [addAt_length, leaveTo_length]; omega), gi_addAt (by rw [leaveTo_length]; omega)]
    unfold one
    split <;> split <;> omega
theorem gi_ext {a b : List Int} {M : Nat} (ha : a.length = M) (hb : b.length = M) (h : ∀ v, v < M → gi a v = gi b v) : a = b := List.ext_getElem (by omega) fun j h1 h2 => by
  have := h j (by omega)
  rwa [gi_at h1, gi_at h2] at this
/-- a flow for an excess, in words of nets -/
def FlowR (M : Nat) (R : List Road) (x f : List Int) : Prop := f.length = R.length ∧ (netR R).Fs (gi f) ∧ ∀ v, v < M → (netR R).out (gi f) v = gi x v
theorem fs_flowB {R : List Road} {f : List Int} (hl : f.length = R.length) : flowB R f = true ↔ (netR R).Fs (gi f) := by
  constructor
  · intro h k hk; exact (flowB_ok h).2 k hk
  · intro h
    refine flowB_yes hl (fun k hk => ?_)
    exact withinB_iff.2 (h k (by rw [hl] at hk; exact hk))
theorem flowErr_iff {M : Nat} {R : List Road} {x f : List Int} (he : excErr (M : Int) R x = 0) : flowErr (M : Int) R x f = 0 ↔ FlowR M R x f := by
  obtain ⟨h1, h2, h3, h4⟩ := excErr_ok he
  have hok := netErr_ok h1
  unfold flowErr
  rw [if_neg (by simpa using he)]
  constructor
  · intro h
    by_cases hb : flowB R f = true
    · rw [if_pos hb] at h
      by_cases hl : leaveTo (M : Int).toNat R f R.length = x
      · refine ⟨(flowB_ok hb).1, (fs_flowB (flowB_ok hb).1).1 hb, fun v hv => ?_⟩
        rw [← hl]
        exact (outR hok f v R.length (Nat.le_refl _)).symm
      · rw [if_neg hl] at h; simp at h
    · rw [if_neg hb] at h; simp at h
  · rintro ⟨a, b, c⟩
    rw [if_pos ((fs_flowB a).2 b), if_pos]
    refine gi_ext (M := M) (by rw [leaveTo_length]; simp) (by omega) (fun v hv => ?_)
    rw [← c v hv]
    exact outR hok f v R.length (Nat.le_refl _)
/-! labels -/
def viewS (st : RS) : Lb Int := ⟨gi st.at_, fun v => if gi st.by_ v = 0 then none else some (gi st.by_ v), st.last⟩
theorem view_relax {M : Nat} {R : List Road} (hok : NetOk (M : Int) R) {st : RS} (h1 : st.at_.length = M) (h2 : st.by_.length = M) {s : Int} (hs : StepIn R.length s) : viewS (relax R st s) = (netR R).arcs.relax farR (viewS st) s ∧ (relax R st s).at_.length = M ∧ (relax R st s).by_.length = M := by
  have ht := stTo_bd hok hs
  have hs0 : s ≠ 0 := fun e => by have := hs.1; rw [e] at this; simp at this
  unfold relax Arcs.relax
  by_cases hc : gi st.at_ (stFr R s).toNat < farR ∧ gi st.at_ (stFr R s).toNat + stLn R s < gi st.at_ (stTo R s).toNat
  · rw [if_pos hc, if_pos (by unfold Arcs.Cond; rw [arcR_fr, arcR_to, arcR_ln]; exact hc)]
    refine ⟨?_, by simp [h1], by simp [h2]⟩
    unfold viewS Arcs.put
    rw [arcR_fr, arcR_to, arcR_ln]
    simp only [Lb.mk.injEq]
    refine ⟨funext fun v => ?_, funext fun v => ?_, by omega⟩
    · rw [gi_set _ _ _ _ (by omega)]
      simp only [upd]
      by_cases e : v = (stTo R s).toNat
      · rw [if_pos e, if_pos e.symm]
      · rw [if_neg e, if_neg (fun h => e h.symm)]
    · rw [gi_set _ _ _ _ (by omega)]
      simp only [upd]
      by_cases e : v = (stTo R s).toNat
      · rw [if_pos e, if_pos e.symm, if_neg hs0]
      · have e2 : ¬ (stTo R s).toNat = v := fun h => e h.symm
        rw [if_neg e, if_neg e2]
  · rw [if_neg hc, if_neg (by unfold Arcs.Cond; rw [arcR_fr, arcR_to, arcR_ln]; exact hc)]
    exact ⟨rfl, h1, h2⟩
theorem view_fold {M : Nat} {R : List Road} (hok : NetOk (M : Int) R) : ∀ {L : List Int} {st : RS}, st.at_.length = M → st.by_.length = M → (∀ s ∈ L, StepIn R.length s) → viewS (L.foldl (relax R) st) = L.foldl ((netR R).arcs.relax farR) (viewS st) ∧ (L.foldl (relax R) st).at_.length = M ∧ (L.foldl (relax R) st).by_.length = M
  | [], _, h1, h2, _ => ⟨rfl, h1, h2⟩
  | s :: L, st, h1, h2, h3 => by
    obtain ⟨e1, e2, e3⟩ := view_relax hok h1 h2 (h3 s List.mem_cons_self)
    rw [List.foldl_cons, List.foldl_cons, ← e1]
    exact view_fold hok e2 e3 (fun t ht => h3 t (List.mem_cons_of_mem _ ht))
theorem view_reach {M : Nat} {R : List Road} (hok : NetOk (M : Int) R) {L : List Int} (hL : ∀ s ∈ L, StepIn R.length s) {st : RS} (h1 : st.at_.length = M) (h2 : st.by_.length = M) : ∀ k, viewS (reachTo R L st k) = (netR R).arcs.reach farR L (viewS st) k ∧ (reachTo R L st k).at_.length = M ∧ (reachTo R L st k).by_.length = M
  | 0 => ⟨rfl, h1, h2⟩
  | k + 1 => by
    obtain ⟨i1, i2, i3⟩ := view_reach hok hL h1 h2 k
    have := view_fold hok (L := L) (st := { reachTo R L st k with last := -1 }) i2 i3 hL
    simp only [reachTo, roundR, Arcs.reach, Arcs.round]
    rw [← i1]
    exact this
theorem reachR_view {M : Nat} {R : List Road} (hok : NetOk (M : Int) R) (f : List Int) {first : List Int} (hf : first.length = M) :
    viewS (reachR M R f first) = (netR R).arcs.reach farR (stepsTo R f R.length) ⟨gi first, fun _ => none, 0⟩ M ∧ (reachR M R f first).at_.length = M ∧ (reachR M R f first).by_.length = M := by
  have := view_reach hok (stepsTo_in R f R.length) (st := ⟨first, List.replicate M 0, 0⟩) hf (by simp) M
  have e : viewS ⟨first, List.replicate M 0, 0⟩ = ⟨gi first, fun _ => none, 0⟩ := by
    unfold viewS
    simp only [Lb.mk.injEq, true_and, and_true]
    funext v
    have : gi (List.replicate M 0) v = 0 := by unfold gi; rw [List.getElem?_replicate]; split <;> rfl
    rw [if_pos this]
  rw [e] at this
  exact this
theorem reachR_end {M : Nat} {R : List Road} (hok : NetOk (M : Int) R) {f first : List Int} (hf : first.length = M) {p : Nat → Int} (hp : (netR R).arcs.Pot (stepsTo R f R.length) p) (hle : ∀ v, v < M → gi first v ≤ farR) :
    LEnd (netR R).arcs farR M (stepsTo R f R.length) p (gi first) (gi (reachR M R f first).at_) (viewS (reachR M R f first)).by_ := by
  obtain ⟨h1, h2, h3⟩ := reachR_view hok f hf
  have := reach_end (A := (netR R).arcs) (far := farR) (p := p) (first := gi first) (steps_in (netR_fine hok) (stepsR R f)) hp hle 0
  have e : gi (reachR M R f first).at_ = (viewS (reachR M R f first)).at_ := rfl
  rw [e, h1]
  exact this
theorem stepsR_ln {M : Nat} {R : List Road} (hok : NetOk (M : Int) R) (f : List Int) : ∀ s ∈ stepsTo R f R.length, -99 ≤ (netR R).arcs.ln s ∧ (netR R).arcs.ln s ≤ 99 := fun s hs => by
  rw [arcR_ln]; exact stLn_bd hok (stepsTo_in R f R.length s hs)
/-! the chain, the nearest node -/
theorem best_no {l a : List Int} : ∀ {k : Nat}, bestTo l a k < 0 → ∀ v, v < k → gi l v < 0 → ¬ gi a v < farR
  | 0, _, v, hv, _ => by omega
  | k + 1, h, v, hv, h1 => by
    simp only [bestTo] at h
    by_cases hc : gi l k < 0 ∧ gi a k < 1099511627776 ∧ (bestTo l a k < 0 ∨ gi a k < gi a (bestTo l a k).toNat)
    · rw [if_pos hc] at h; omega
    · rw [if_neg hc] at h
      rcases Nat.lt_succ_iff_lt_or_eq.1 hv with hv | rfl
      · exact best_no h v hv h1
      · exact fun h2 => hc ⟨h1, h2, .inl h⟩
theorem best_yes {l a : List Int} : ∀ {k : Nat}, ¬ bestTo l a k < 0 → (bestTo l a k).toNat < k ∧ gi l (bestTo l a k).toNat < 0 ∧ gi a (bestTo l a k).toNat < farR
  | 0, h => absurd (by simp [bestTo]) h
  | k + 1, h => by
    simp only [bestTo] at h ⊢
    by_cases hc : gi l k < 0 ∧ gi a k < 1099511627776 ∧ (bestTo l a k < 0 ∨ gi a k < gi a (bestTo l a k).toNat)
    · rw [if_pos hc]; exact ⟨by omega, hc.1, hc.2.1⟩
    · rw [if_neg hc] at h ⊢
      obtain ⟨h1, h2, h3⟩ := best_yes h
      exact ⟨by omega, h2, h3⟩
theorem turn_view {f : List Int} {s : Int} (h : stepNo s < f.length) : gi (turnF f s) = turnG (gi f) s := by
  funext k
  unfold turnF turnG sg
  show gi _ k = upd (gi f) (stepNo s) _ k
  split <;> rw [gi_addAt h] <;> simp only [upd] <;> (by_cases e : k = stepNo s) <;> (first | (subst e; simp; rfl) | (rw [if_neg (fun h => e h.symm), if_neg e]; omega))
theorem chain_view {M : Nat} {R : List Road} {st : RS} : ∀ {F v : Nat} {c : List Int} {r : Nat} {f : List Int}, Chn (netR R).arcs (viewS st).by_ v c r → c.length < F → (∀ s ∈ c, stepNo s < f.length) →
    ∃ f', chain R st.by_ F v f = some (f', r) ∧ f'.length = f.length ∧ gi f' = turnsG (gi f) c
  | 0, _, _, _, _, _, h, _ => by omega
  | F + 1, v, c, r, f, hc, hl, hs => by
    cases hc with
    | nil h =>
      refine ⟨f, ?_, rfl, rfl⟩
      have h : (if gi st.by_ v = 0 then none else some (gi st.by_ v)) = none := h
      rw [chain, if_pos]
      refine Classical.byContradiction fun hn => ?_
      rw [if_neg hn] at h; simp at h
    | @cons _ s l _ h h2 =>
      have h : (if gi st.by_ v = 0 then none else some (gi st.by_ v)) = some s := h
      by_cases h0 : gi st.by_ v = 0
      · rw [if_pos h0] at h; simp at h
      · rw [if_neg h0] at h
        have e : gi st.by_ v = s := Option.some.inj h
        rw [chain, if_neg h0, e, ← arcR_fr]
        have hs1 := hs s List.mem_cons_self
        obtain ⟨f', a1, a2, a3⟩ := chain_view (M := M) (F := F) (f := turnF f s) h2 (by simp at hl; omega) (fun t ht => by rw [turnF_length]; exact hs t (List.mem_cons_of_mem _ ht))
        refine ⟨f', a1, by rw [a2, turnF_length], ?_⟩
        rw [a3, turn_view hs1]
        rfl
/-! ship ends -/
theorem shipF_ends {M : Nat} {R : List Road} (hok : NetOk (M : Int) R) {x : Nat → Int} : ∀ (F : Nat) (f l : List Int), f.length = R.length → l.length = M → ShipInv (netR R) M x (gi f) (gi l) → over (gi l) M < F →
    ∃ fl lf, shipF M R F f l = some (fl, lf) ∧ fl.length = R.length ∧ lf.length = M ∧ ShipInv (netR R) M x (gi fl) (gi lf) ∧ bestTo lf (reachR M R fl (firstL lf)).at_ M < 0
  | 0, f, l, _, _, _, h => by have := over_nonneg (gi l) M; omega
  | F + 1, f, l, hf, hl, hI, ho => by
    have hM := hok.n1
    have hG := netR_fine hok
    have hS := stepsR R f
    obtain ⟨p, hp⟩ := hI.pot
    have hfl : (firstL l).length = M := by unfold firstL; rw [firstTo_length]; exact hl
    have hfirst : ∀ v, v < M → gi (firstL l) v = farR ∨ (gi (firstL l) v = 0 ∧ 0 < gi l v) := fun v hv => by
      unfold firstL
      rw [gi_firstTo (by omega), if_pos (by omega)]
      by_cases h : gi l v ≤ 0
      · rw [if_pos h]; exact .inl rfl
      · rw [if_neg h]; exact .inr ⟨rfl, by omega⟩
    have hE := reachR_end hok (f := f) (first := firstL l) hfl (pot_of hS hp) (fun v hv => by have := (firstL_bd (l := l) (i := v) (by omega)).2; exact this)
    rw [shipF]
    by_cases hb : bestTo l (reachR M R f (firstL l)).at_ M < 0
    · rw [if_pos hb]
      exact ⟨f, l, rfl, hf, hl, hI, hb⟩
    · rw [if_neg hb]
      obtain ⟨b1, b2, b3⟩ := best_yes hb
      generalize (bestTo l (reachR M R f (firstL l)).at_ M).toNat = best at *
      obtain ⟨c, r, hc, hr, hlr, hcl, hI2⟩ := ship_more hG hI hS (pot_of hS hp) hE (K := 99) (by omega) (stepsR_ln hok f) (by unfold farR; omega) hfirst b1 b3
      have hcin : ∀ s ∈ c, stepNo s < f.length := fun s hs => by
        have := (hE.tele (steps_in hG hS) b1 hc).2.2.1 s hs
        have := stepNo_lt (stepsTo_in R f R.length s this)
        omega
      obtain ⟨f', e1, e2, e3⟩ := chain_view (M := M) (F := 20) (f := f) hc (by omega) hcin
      rw [e1]
      have hl2 : gi (addAt (addAt l best 1) r (-1)) = fun v => gi l v + one best v - one r v := funext fun v => by
        rw [gi_addAt (by rw [addAt_length]; omega), gi_addAt (by omega)]
        unfold one
        split <;> split <;> omega
      refine shipF_ends hok F f' (addAt (addAt l best 1) r (-1)) (by omega) (by rw [addAt_length, addAt_length]; exact hl) (by rw [e3, hl2]; exact hI2) ?_
      rw [hl2, over_step b2 hlr hr]
      omega
/-- what ship hands back -/
def shipV (M : Nat) (R : List Road) (x : List Int) : List Int × List Int := (shipF M R 1000 (List.replicate R.length 0) x).getD ([], [])
def okB (M : Nat) (R : List Road) (x : List Int) : Bool := !((shipV M R x).2.any (fun n => n != 0))
theorem gi_rep0 (n : Nat) : gi (List.replicate n 0) = fun _ => 0 := funext fun v => by unfold gi; rw [List.getElem?_replicate]; split <;> rfl
theorem over_bd {x : List Int} {M : Nat} (hM : M ≤ 6) (h : ∀ v, v < M → gi x v ≤ 30) : over (gi x) M ≤ 180 := by
  have := sumR_bd (f := fun v => max (gi x v) 0) (A := 0) (B := 30) (n := M) (fun i hi => by have := h i hi; omega) M (Nat.le_refl _)
  rw [sumR_N] at this
  unfold over
  omega
structure ShipOk (M : Nat) (R : List Road) (x : List Int) : Prop where
  run : shipF M R 1000 (List.replicate R.length 0) x = some (shipV M R x)
  lf : (shipV M R x).1.length = R.length
  ll : (shipV M R x).2.length = M
  inv : ShipInv (netR R) M (gi x) (gi (shipV M R x).1) (gi (shipV M R x).2)
  no : ∀ v, v < M → gi (shipV M R x).2 v < 0 → ¬ gi (reachR M R (shipV M R x).1 (firstL (shipV M R x).2)).at_ v < farR
theorem ship_ok {M : Nat} {R : List Road} {x : List Int} (he : excErr (M : Int) R x = 0) : ShipOk M R x := by
  obtain ⟨h1, h2, h3, h4⟩ := excErr_ok he
  have hok := netErr_ok h1
  have hM := hok.n1
  have h0 : ShipInv (netR R) M (gi x) (gi (List.replicate R.length 0)) (gi x) := by
    rw [gi_rep0]
    exact ship_zero _ (fun k hk => by have := hok.wd k hk; simp only [netR, rdK_at hk]; omega) (fun k hk => by have := hok.ln k hk; simp only [netR, rdK_at hk]; omega)
  obtain ⟨fl, lf, e, a, b, c, d⟩ := shipF_ends hok 1000 (List.replicate R.length 0) x (by simp) (by omega) h0 (by have := over_bd (x := x) (M := M) (by omega) (fun v hv => (h3 v (by omega)).2); omega)
  have e2 : shipV M R x = (fl, lf) := by unfold shipV; rw [e]; rfl
  refine ⟨by rw [e2, e], by rw [e2]; exact a, by rw [e2]; exact b, by rw [e2]; exact c, ?_⟩
  rw [e2]
  exact best_no d
theorem okB_iff {M : Nat} {R : List Road} {x : List Int} (h : ShipOk M R x) : okB M R x = true ↔ ∀ v, v < M → gi (shipV M R x).2 v = 0 := by
  unfold okB
  rw [Bool.not_eq_true', List.any_eq_false]
  constructor
  · intro h1 v hv
    have := h1 ((shipV M R x).2[v]'(by rw [h.ll]; exact hv)) (List.getElem_mem _)
    rw [gi_at (by rw [h.ll]; exact hv)]
    simpa using this
  · intro h1 y hy
    obtain ⟨j, hj, rfl⟩ := List.getElem_of_mem hy
    have := h1 j (by rw [h.ll] at hj; exact hj)
    rw [gi_at hj] at this
    simp [this]
/-- there is a flow: a cheapest one is handed back, with prices -/
theorem ok_flow {M : Nat} {R : List Road} {x : List Int} (h : ShipOk M R x) (hb : okB M R x = true) : FlowR M R x (shipV M R x).1 := by
  have hz := (okB_iff h).1 hb
  refine ⟨h.lf, h.inv.fs, fun v hv => ?_⟩
  have := h.inv.out v hv
  rw [hz v hv] at this
  omega
theorem least_cheap {M : Nat} {R : List Road} {x f g : List Int} (hok : NetOk (M : Int) R) {p : Nat → Int} (hp : (netR R).arcs.Pot (stepsTo R f R.length) p) (hf : FlowR M R x f) (hg : FlowR M R x g) : costTo R f R.length ≤ costTo R g R.length := by
  rw [costR, costR]
  exact (cheapest_of (netR_fine hok) (stepsR R f) hp hf.2.1 hg.2.1 (fun v hv => by rw [hf.2.2 v hv, hg.2.2 v hv])).1
theorem ok_least {M : Nat} {R : List Road} {x g : List Int} (hok : NetOk (M : Int) R) (h : ShipOk M R x) (hb : okB M R x = true) (hg : FlowR M R x g) : costTo R (shipV M R x).1 R.length ≤ costTo R g R.length := by
  obtain ⟨p, hp⟩ := h.inv.pot
  exact least_cheap hok (pot_of (stepsR R _) hp) (ok_flow h hb) hg
/-- the reached nodes -/
def reachedB (M : Nat) (R : List Road) (x : List Int) (v : Nat) : Bool := decide (gi (reachR M R (shipV M R x).1 (firstL (shipV M R x).2)).at_ v < farR)
theorem left_source {l : Nat → Int} {N : Nat} (hs : sumN l N = 0) (h : ¬ ∀ v, v < N → l v = 0) : ∃ a, a < N ∧ 0 < l a := Classical.byContradiction fun hn => h (left_zero (fun v hv => Classical.byContradiction fun h2 => hn ⟨v, hv, by omega⟩) hs)
theorem ok_left {M : Nat} {R : List Road} {x : List Int} (he : excErr (M : Int) R x = 0) (h : ShipOk M R x) : sumN (gi (shipV M R x).2) M = 0 := by
  obtain ⟨h1, h2, h3, h4⟩ := excErr_ok he
  have hok := netErr_ok h1
  have h5 := out_sum (netR_fine hok) (gi (shipV M R x).1)
  have hx : sumN (gi x) M = 0 := by rw [← sumR_N, show M = x.length by omega]; exact h4
  rw [← sumN_congr (f := fun v => (netR R).out (gi (shipV M R x).1) v + gi (shipV M R x).2 v) (g := gi x) (fun v hv => h.inv.out v hv), sumN_add, h5] at hx
  omega
theorem ok_dam {M : Nat} {R : List Road} {x : List Int} (he : excErr (M : Int) R x = 0) (h : ShipOk M R x) (hb : okB M R x = false) : (netR R).Dam M (gi x) (reachedB M R x) := by
  obtain ⟨h1, h2, h3, h4⟩ := excErr_ok he
  have hok := netErr_ok h1
  have hM := hok.n1
  obtain ⟨a, ha, ha2⟩ := left_source (ok_left he h) (fun hz => by rw [(okB_iff h).2 hz] at hb; simp at hb)
  obtain ⟨p, hp⟩ := h.inv.pot
  have hfl : (firstL (shipV M R x).2).length = M := by unfold firstL; rw [firstTo_length]; exact h.ll
  have hgf : ∀ v, v < M → gi (firstL (shipV M R x).2) v = if gi (shipV M R x).2 v ≤ 0 then farR else 0 := fun v hv => by
    unfold firstL
    rw [gi_firstTo (by rw [h.ll]; exact hv), if_pos (by rw [h.ll]; exact hv)]; rfl
  have hE := reachR_end hok (f := (shipV M R x).1) (first := firstL (shipV M R x).2) hfl (pot_of (stepsR R _) hp) (fun v hv => (firstL_bd (l := (shipV M R x).2) (i := v) (by rw [h.ll]; exact hv)).2)
  exact ship_stuck (netR_fine hok) h.inv (stepsR R _) hE (K := 99) (by omega) (stepsR_ln hok _) (by unfold farR; omega) (fun v hv => by
    rw [hgf v hv]
    by_cases h : gi (shipV M R x).2 v ≤ 0
    · rw [if_pos h]; exact .inl rfl
    · rw [if_neg h]; exact .inr ⟨rfl, by omega⟩) h.no ha (by rw [hgf a ha, if_neg (by omega)])
theorem dam_no {M : Nat} {R : List Road} {x g : List Int} (hok : NetOk (M : Int) R) {S : Nat → Bool} (hd : (netR R).Dam M (gi x) S) (hg : FlowR M R x g) : False := dam_none (netR_fine hok) hd hg.2.1 hg.2.2
/-- there is a flow exactly if ship leaves nothing -/
theorem okB_flow {M : Nat} {R : List Road} {x : List Int} (he : excErr (M : Int) R x = 0) : okB M R x = true ↔ ∃ g, FlowR M R x g := by
  have h := ship_ok he
  constructor
  · exact fun hb => ⟨_, ok_flow h hb⟩
  · rintro ⟨g, hg⟩
    cases hb : okB M R x with
    | true => rfl
    | false => exact (dam_no (netErr_ok (excErr_ok he).1) (ok_dam he h hb) hg).elim
end Go.Proofs.Ytbejgbflipoboaa
