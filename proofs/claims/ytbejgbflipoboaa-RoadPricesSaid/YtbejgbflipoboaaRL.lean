/- Plain words of roads: the reference's cheapest flow, with fuel; it is the program's. No program in sight. -/
import Derived.Test.YtbejgbflipoboaaRK
namespace Go.Proofs.Ytbejgbflipoboaa
open Go.RowKit

/-- the first node that has too much -/
def srcOf (l : List Int) : Nat := l.findIdx fun v => decide (0 < v)
theorem srcOf_le (l : List Int) : srcOf l ≤ l.length := List.findIdx_le_length
theorem srcOf_pos {l : List Int} (h : srcOf l < l.length) : 0 < gi l (srcOf l) := by
  have := List.findIdx_getElem (xs := l) (p := fun v => decide (0 < v)) (w := h)
  rw [gi_at h]
  exact of_decide_eq_true this
theorem srcOf_before {l : List Int} {j : Nat} (h : j < srcOf l) : gi l j ≤ 0 := by
  have h1 := srcOf_le l
  have := List.not_of_lt_findIdx (xs := l) (p := fun v => decide (0 < v)) h
  rw [gi_at (by omega)]
  simpa using this
theorem srcOf_eq {l : List Int} {k : Nat} (hk : k ≤ l.length) (h1 : ∀ j, j < k → gi l j ≤ 0) (h2 : k = l.length ∨ 0 < gi l k) : srcOf l = k := by
  rcases Nat.lt_trichotomy (srcOf l) k with h | h | h
  · have := srcOf_pos (l := l) (by omega)
    have := h1 _ h
    omega
  · exact h
  · have := srcOf_before h
    have := srcOf_le l
    omega
def bestW (l at_ : List Int) : Nat → Int
  | 0 => -1
  | k + 1 => if gi l k < 0 ∧ gi at_ k < 1000000 ∧ (bestW l at_ k < 0 ∨ gi at_ k < gi at_ (bestW l at_ k).toNat) then (k : Int) else bestW l at_ k
theorem bestW_bd (l at_ : List Int) : ∀ k, -1 ≤ bestW l at_ k ∧ bestW l at_ k < k
  | 0 => by simp [bestW]
  | k + 1 => by
    have ih := bestW_bd l at_ k
    simp only [bestW]
    split <;> omega
theorem bestW_no {l a : List Int} : ∀ {k : Nat}, bestW l a k < 0 → ∀ v, v < k → gi l v < 0 → ¬ gi a v < farW
  | 0, _, v, hv, _ => by omega
  | k + 1, h, v, hv, h1 => by
    simp only [bestW] at h
    by_cases hc : gi l k < 0 ∧ gi a k < 1000000 ∧ (bestW l a k < 0 ∨ gi a k < gi a (bestW l a k).toNat)
    · rw [if_pos hc] at h; omega
    · rw [if_neg hc] at h
      rcases Nat.lt_succ_iff_lt_or_eq.1 hv with hv | rfl
      · exact bestW_no h v hv h1
      · exact fun h2 => hc ⟨h1, h2, .inl h⟩
theorem bestW_yes {l a : List Int} : ∀ {k : Nat}, ¬ bestW l a k < 0 → (bestW l a k).toNat < k ∧ gi l (bestW l a k).toNat < 0 ∧ gi a (bestW l a k).toNat < farW
  | 0, h => absurd (by simp [bestW]) h
  | k + 1, h => by
    simp only [bestW] at h ⊢
    by_cases hc : gi l k < 0 ∧ gi a k < 1000000 ∧ (bestW l a k < 0 ∨ gi a k < gi a (bestW l a k).toNat)
    · rw [if_pos hc]; exact ⟨by omega, hc.1, hc.2.1⟩
    · rw [if_neg hc] at h ⊢
      obtain ⟨h1, h2, h3⟩ := bestW_yes h
      exact ⟨by omega, h2, h3⟩
/-- the chain back to the node a -/
def chainW (R : List Road) (L by_ : List Int) (a : Nat) : Nat → Nat → List Int → Option (List Int)
  | 0, _, _ => none
  | F + 1, v, f => if v = a then some f else if gi by_ v < 0 then none else chainW R L by_ a F (stFr R (gi L (gi by_ v).toNat)).toNat (addAt f (stepNo (gi L (gi by_ v).toNat)) (sg (gi L (gi by_ v).toNat)))
def chpF (N : Nat) (R : List Road) : Nat → List Int → List Int → Option (Option (List Int))
  | 0, _, _ => none
  | F + 1, f, l =>
    if srcOf l = N then some (some f) else
      if bestW l (waysR N R (stepsTo R f R.length) (srcOf l)).at_ N < 0 then some none else
        match chainW R (stepsTo R f R.length) (waysR N R (stepsTo R f R.length) (srcOf l)).by_ (srcOf l) 20 (bestW l (waysR N R (stepsTo R f R.length) (srcOf l)).at_ N).toNat f with
        | none => none
        | some f' => chpF N R F f' (addAt (addAt l (srcOf l) (-1)) (bestW l (waysR N R (stepsTo R f R.length) (srcOf l)).at_ N).toNat 1)
theorem chainW_step {R : List Road} {L by_ : List Int} {a F v : Nat} {f g : List Int} (h : chainW R L by_ a F v f = some g) :
    ∃ F', F = F' + 1 ∧ ((v = a ∧ g = f) ∨ (v ≠ a ∧ 0 ≤ gi by_ v ∧ chainW R L by_ a F' (stFr R (gi L (gi by_ v).toNat)).toNat (addAt f (stepNo (gi L (gi by_ v).toNat)) (sg (gi L (gi by_ v).toNat))) = some g)) := by
  cases F with
  | zero => simp [chainW] at h
  | succ F' =>
    refine ⟨F', rfl, ?_⟩
    rw [chainW] at h
    by_cases hv : v = a
    · rw [if_pos hv] at h; exact .inl ⟨hv, (Option.some.inj h).symm⟩
    · rw [if_neg hv] at h
      by_cases h0 : gi by_ v < 0
      · rw [if_pos h0] at h; simp at h
      · rw [if_neg h0] at h; exact .inr ⟨hv, by omega, h⟩
theorem chp_step {N : Nat} {R : List Road} {F : Nat} {f l : List Int} {r : Option (List Int)} (h : chpF N R F f l = some r) :
    ∃ F', F = F' + 1 ∧ ((srcOf l = N ∧ r = some f) ∨ (srcOf l ≠ N ∧ bestW l (waysR N R (stepsTo R f R.length) (srcOf l)).at_ N < 0 ∧ r = none) ∨
      (srcOf l ≠ N ∧ ¬ bestW l (waysR N R (stepsTo R f R.length) (srcOf l)).at_ N < 0 ∧ ∃ f', chainW R (stepsTo R f R.length) (waysR N R (stepsTo R f R.length) (srcOf l)).by_ (srcOf l) 20 (bestW l (waysR N R (stepsTo R f R.length) (srcOf l)).at_ N).toNat f = some f' ∧
        chpF N R F' f' (addAt (addAt l (srcOf l) (-1)) (bestW l (waysR N R (stepsTo R f R.length) (srcOf l)).at_ N).toNat 1) = some r)) := by
  cases F with
  | zero => simp [chpF] at h
  | succ F' =>
    refine ⟨F', rfl, ?_⟩
    rw [chpF] at h
    by_cases hs : srcOf l = N
    · rw [if_pos hs] at h; exact .inl ⟨hs, (Option.some.inj h).symm⟩
    · rw [if_neg hs] at h
      by_cases hb : bestW l (waysR N R (stepsTo R f R.length) (srcOf l)).at_ N < 0
      · rw [if_pos hb] at h; exact .inr (.inl ⟨hs, hb, (Option.some.inj h).symm⟩)
      · rw [if_neg hb] at h
        generalize hc : chainW R (stepsTo R f R.length) (waysR N R (stepsTo R f R.length) (srcOf l)).by_ (srcOf l) 20 (bestW l (waysR N R (stepsTo R f R.length) (srcOf l)).at_ N).toNat f = o at h
        cases o with
        | none => simp at h
        | some f' => exact .inr (.inr ⟨hs, hb, f', rfl, h⟩)
/-! the search for the nearest node -/
theorem bestW_no1 {l a : List Int} {k : Nat} (h : ¬ gi l k < 0) : bestW l a (k + 1) = bestW l a k := by
  rw [bestW, if_neg (fun c => h c.1)]
theorem bestW_no2 {l a : List Int} {k : Nat} (h : ¬ gi a k < 1000000) : bestW l a (k + 1) = bestW l a k := by
  rw [bestW, if_neg (fun c => h c.2.1)]
theorem bestW_yes1 {l a : List Int} {k : Nat} (h1 : gi l k < 0) (h2 : gi a k < 1000000) (h3 : bestW l a k < 0) : bestW l a (k + 1) = k := by
  rw [bestW, if_pos ⟨h1, h2, .inl h3⟩]
theorem bestW_yes2 {l a : List Int} {k p : Nat} (h1 : gi l k < 0) (h2 : gi a k < 1000000) (h3 : bestW l a k = p) (h4 : gi a k < gi a p) : bestW l a (k + 1) = k := by
  rw [bestW, if_pos ⟨h1, h2, .inr (by rw [h3, Int.toNat_natCast]; exact h4)⟩]
theorem bestW_no3 {l a : List Int} {k p : Nat} (h3 : bestW l a k = p) (h4 : ¬ gi a k < gi a p) : bestW l a (k + 1) = bestW l a k := by
  rw [bestW, if_neg]
  rintro ⟨_, _, c | c⟩
  · omega
  · rw [h3, Int.toNat_natCast] at c; exact h4 c
theorem turn_sg {f : List Int} {s : Int} (h : stepNo s < f.length) : gi (addAt f (stepNo s) (sg s)) = turnG (gi f) s := by
  funext k
  unfold turnG
  rw [gi_addAt h]
  show _ = upd (gi f) (stepNo s) (gi f (stepNo s) + sg s) k
  simp only [upd]
  by_cases e : k = stepNo s
  · subst e; simp
  · rw [if_neg (fun h => e h.symm), if_neg e]; omega
theorem chainW_view {R : List Road} {L : List Int} {st : WS} {a : Nat} : ∀ {F v : Nat} {c : List Int} {f : List Int}, Chn (netR R).arcs (viewB L st) v c a → c.length < F → (∀ s ∈ c, stepNo s < f.length) →
    (v :: nodesOf (netR R).arcs c).Nodup → ∃ f', chainW R L st.by_ a F v f = some f' ∧ f'.length = f.length ∧ gi f' = turnsG (gi f) c
  | 0, _, _, _, _, h, _, _ => by omega
  | F + 1, v, c, f, hc, hl, hs, hn => by
    cases hc with
    | nil h => exact ⟨f, by rw [chainW, if_pos rfl], rfl, rfl⟩
    | @cons _ s l _ h h2 =>
      have hv : v ≠ a := fun e => by
        subst e
        have ha : v ∈ (netR R).arcs.fr s :: nodesOf (netR R).arcs l := by
          have key : ∀ {w l}, Chn (netR R).arcs (viewB L st) w l v → v ∈ w :: nodesOf (netR R).arcs l := by
            intro w l hc
            have : ∀ {w l r}, Chn (netR R).arcs (viewB L st) w l r → r ∈ w :: nodesOf (netR R).arcs l := by
              intro w l r hc
              induction hc with
              | nil _ => exact List.mem_cons_self
              | @cons w s l r _ _ ih => exact List.mem_cons_of_mem _ (by simpa [nodesOf] using ih)
            exact this hc
          exact key h2
        exact (List.nodup_cons.1 hn).1 (by simpa [nodesOf] using ha)
      unfold viewB at h
      split at h
      · rename_i hb
        have e : gi L (gi st.by_ v).toNat = s := by unfold gi at h ⊢; rw [h]; rfl
        rw [chainW, if_neg hv, if_neg (by omega), e, ← arcR_fr]
        have hs1 := hs s List.mem_cons_self
        obtain ⟨f', a1, a2, a3⟩ := chainW_view (F := F) (f := addAt f (stepNo s) (sg s)) h2 (by simp at hl; omega) (fun t ht => by rw [addAt_length]; exact hs t (List.mem_cons_of_mem _ ht)) (by
          have := (List.nodup_cons.1 hn).2
          simpa [nodesOf] using this)
        refine ⟨f', a1, by rw [a2, addAt_length], ?_⟩
        rw [a3, turn_sg hs1]
        rfl
      · simp at h
theorem chp_ends {M : Nat} {R : List Road} (hok : NetOk (M : Int) R) {x : Nat → Int} (hx : sumN x M = 0) : ∀ (F : Nat) (f l : List Int), f.length = R.length → l.length = M → ShipInv (netR R) M x (gi f) (gi l) → over (gi l) M < F →
    (∃ f', chpF M R F f l = some (some f') ∧ f'.length = R.length ∧ ShipInv (netR R) M x (gi f') (fun _ => 0)) ∨ (chpF M R F f l = some none ∧ ∃ S, (netR R).Dam M x S)
  | 0, f, l, _, _, _, h => by have := over_nonneg (gi l) M; omega
  | F + 1, f, l, hf, hl, hI, ho => by
    have hM := hok.n1
    have h12 := hok.r12
    have hG := netR_fine hok
    have hS := stepsR R f
    obtain ⟨p, hp⟩ := hI.pot
    rw [chpF]
    by_cases hs : srcOf l = M
    · rw [if_pos hs]
      left
      refine ⟨f, rfl, hf, hI.fs, fun v hv => ?_, hI.pot⟩
      have h0 : ∀ v, v < M → gi l v = 0 := left_zero (fun v hv => srcOf_before (by omega)) (by
        have h5 := out_sum hG (gi f)
        rw [← sumN_congr (f := fun v => (netR R).out (gi f) v + gi l v) (g := x) (fun v hv => hI.out v hv), sumN_add, h5] at hx
        omega)
      have := hI.out v hv
      rw [h0 v hv] at this
      omega
    · rw [if_neg hs]
      have hsl := srcOf_le l
      have hsp := srcOf_pos (l := l) (by omega)
      have hE := ways_end hok (stepsTo_in R f R.length) (by have := stepsTo_length R f R.length; omega) (show srcOf l < M by omega) (pot_of hS hp)
      have hfirst : ∀ v, v < M → firstW (srcOf l) v = farW ∨ (firstW (srcOf l) v = 0 ∧ 0 < gi l v) := fun v hv => by
        unfold firstW
        by_cases h : v = srcOf l
        · rw [if_pos h]; right; subst h; exact ⟨rfl, hsp⟩
        · rw [if_neg h]; exact .inl rfl
      by_cases hb : bestW l (waysR M R (stepsTo R f R.length) (srcOf l)).at_ M < 0
      · rw [if_pos hb]
        right
        exact ⟨rfl, _, ship_stuck hG hI hS hE (K := 99) (by omega) (stepsR_ln hok f) (by unfold farW; omega) hfirst (bestW_no hb) (show srcOf l < M by omega) (by unfold firstW; rw [if_pos rfl])⟩
      · rw [if_neg hb]
        obtain ⟨b1, b2, b3⟩ := bestW_yes hb
        generalize (bestW l (waysR M R (stepsTo R f R.length) (srcOf l)).at_ M).toNat = best at *
        obtain ⟨c, r, hc, hr, hlr, hcl, hI2⟩ := ship_more hG hI hS (pot_of hS hp) hE (K := 99) (by omega) (stepsR_ln hok f) (by unfold farW; omega) hfirst b1 b3
        have htl := hE.tele (steps_in hG hS) b1 hc
        have hra : r = srcOf l := by
          have h1 := htl.2.2.2.2 b3
          have h2 := htl.2.2.2.1
          unfold firstW at h2
          refine Classical.byContradiction fun hn => ?_
          rw [if_neg hn] at h2
          omega
        subst hra
        have hcin : ∀ s ∈ c, stepNo s < f.length := fun s hs => by
          have := htl.2.2.1 s hs
          have := stepNo_lt (stepsTo_in R f R.length s this)
          omega
        obtain ⟨f', e1, e2, e3⟩ := chainW_view (F := 20) (f := f) hc (by omega) hcin hc.nodup
        rw [e1]
        have hl2 : gi (addAt (addAt l (srcOf l) (-1)) best 1) = fun v => gi l v + one best v - one (srcOf l) v := funext fun v => by
          rw [gi_addAt (by rw [addAt_length]; omega), gi_addAt (by omega)]
          unfold one
          split <;> split <;> omega
        refine chp_ends hok hx F f' (addAt (addAt l (srcOf l) (-1)) best 1) (by omega) (by rw [addAt_length, addAt_length]; exact hl) (by rw [e3, hl2]; exact hI2) ?_
        rw [hl2, over_step b2 hlr (by omega)]
        omega
/-- the reference's cheapest flow -/
def chpV (M : Nat) (R : List Road) (x : List Int) : Option (List Int) := (chpF M R 1000 (List.replicate R.length 0) x).getD none
theorem chp_ok {M : Nat} {R : List Road} {x : List Int} (he : excErr (M : Int) R x = 0) : chpF M R 1000 (List.replicate R.length 0) x = some (chpV M R x) ∧
    ((okF (M : Int) R x = true ∧ ∃ f, chpV M R x = some f ∧ FlowR M R x f ∧ costTo R f R.length = lstF (M : Int) R x ∧ ∃ p, (netR R).arcs.Pot (stepsTo R f R.length) p) ∨ (okF (M : Int) R x = false ∧ chpV M R x = none)) := by
  obtain ⟨h1, h2, h3, h4⟩ := excErr_ok he
  have hok := netErr_ok h1
  have hM := hok.n1
  have h0 : ShipInv (netR R) M (gi x) (gi (List.replicate R.length 0)) (gi x) := by
    rw [gi_rep0]
    exact ship_zero _ (fun k hk => by have := hok.wd k hk; simp only [netR, rdK_at hk]; omega) (fun k hk => by have := hok.ln k hk; simp only [netR, rdK_at hk]; omega)
  have hx : sumN (gi x) M = 0 := by rw [← sumR_N, show M = x.length by omega]; exact h4
  rcases chp_ends hok hx 1000 (List.replicate R.length 0) x (by simp) (by omega) h0 (by have := over_bd (x := x) (M := M) (by omega) (fun v hv => (h3 v (by omega)).2); omega) with ⟨f, e, hfl, hI⟩ | ⟨e, S, hd⟩
  · have e2 : chpV M R x = some f := by unfold chpV; rw [e]; rfl
    have hF : FlowR M R x f := ⟨hfl, hI.fs, fun v hv => by have := hI.out v hv; omega⟩
    refine ⟨by rw [e2, e], .inl ⟨(okF_iff he).2 ⟨f, hF⟩, f, e2, hF, ?_, ?_⟩⟩
    · obtain ⟨p, hp⟩ := hI.pot
      obtain ⟨M', e3, _, _, _, _, _, k7, k8, k9⟩ := okF_flow ((okF_iff he).2 ⟨f, hF⟩)
      obtain rfl : M = M' := by omega
      have a1 := lstF_le he hF
      have a2 := least_cheap hok (pot_of (stepsR R f) hp) hF k7
      omega
    · obtain ⟨p, hp⟩ := hI.pot
      exact ⟨p, pot_of (stepsR R f) hp⟩
  · have e2 : chpV M R x = none := by unfold chpV; rw [e]; rfl
    refine ⟨by rw [e2, e], .inr ⟨?_, e2⟩⟩
    cases hb : okF (M : Int) R x with
    | false => rfl
    | true =>
      obtain ⟨g, hg⟩ := (okF_iff he).1 hb
      exact (dam_no hok hd hg).elim
end Go.Proofs.Ytbejgbflipoboaa
