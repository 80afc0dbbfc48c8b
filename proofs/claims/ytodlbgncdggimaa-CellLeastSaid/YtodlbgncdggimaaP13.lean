/- Plain words of cells: the reference's improvement, in lists. -/
import Derived.Test.YtodlbgncdggimaaP12
namespace Go.Proofs.Ytodlbgncdggimaa
open Go.RowKit

structure IS where
  at_ : List Int
  by_ : List Int
  last : Int
def farI : Int := 1000000000
/-- what chg says of the pair -/
def goI (d : Nat → Nat → Int) (O : Nat → Nat) (m : Nat) (at_ : List Int) (s : Nat × Nat) : Bool := match chg d O s.1 s.2 m with
  | none => false
  | some q => !decide (s.1 = s.2) && decide (gi at_ s.1 + q.2 < gi at_ s.2)
def relaxI (d : Nat → Nat → Int) (O : Nat → Nat) (m : Nat) (st : IS) (s : Nat × Nat) : IS :=
  if goI d O m st.at_ s then ⟨st.at_.set s.2 (gi st.at_ s.1 + ((chg d O s.1 s.2 m).getD (0, 0)).2), st.by_.set s.2 (s.1 : Int), s.2⟩ else st
theorem relaxI_no {d : Nat → Nat → Int} {O : Nat → Nat} {m : Nat} {st : IS} {s : Nat × Nat} (h : goI d O m st.at_ s = false) : relaxI d O m st s = st := by unfold relaxI; rw [h]; rfl
theorem relaxI_yes {d : Nat → Nat → Int} {O : Nat → Nat} {m : Nat} {st : IS} {s : Nat × Nat} (h : goI d O m st.at_ s = true) : relaxI d O m st s = ⟨st.at_.set s.2 (gi st.at_ s.1 + ((chg d O s.1 s.2 m).getD (0, 0)).2), st.by_.set s.2 (s.1 : Int), s.2⟩ := by unfold relaxI; rw [if_pos h]
/-- the state as far as site i, site k of a round -/
def partI (d : Nat → Nat → Int) (O : Nat → Nat) (m n : Nat) (st : IS) (i k : Nat) : IS := ((List.range k).map fun q => (i, q)).foldl (relaxI d O m) ((cList i n).foldl (relaxI d O m) { st with last := -1 })
theorem partI_zero (d : Nat → Nat → Int) (O : Nat → Nat) (m n : Nat) (st : IS) : partI d O m n st 0 0 = { st with last := -1 } := rfl
theorem partI_succ (d : Nat → Nat → Int) (O : Nat → Nat) (m n : Nat) (st : IS) (i k : Nat) : partI d O m n st i (k + 1) = relaxI d O m (partI d O m n st i k) (i, k) := by
  unfold partI
  rw [List.range_succ, List.map_append, List.foldl_append]; rfl
theorem partI_row (d : Nat → Nat → Int) (O : Nat → Nat) (m n : Nat) (st : IS) (i : Nat) : partI d O m n st i n = partI d O m n st (i + 1) 0 := by
  unfold partI
  rw [cList_succ, List.foldl_append]; rfl
def reachI (d : Nat → Nat → Int) (O : Nat → Nat) (m n : Nat) (st : IS) : Nat → IS
  | 0 => st
  | r + 1 => partI d O m n (reachI d O m n st r) n 0
/-- the state and the labels -/
structure RelI (d : Nat → Nat → Int) (O : Nat → Nat) (m n : Nat) (st : IS) (lb : Lb (Nat × Nat)) : Prop where
  la : st.at_.length = n
  lB : st.by_.length = n
  at_ : ∀ v, gi st.at_ v = lb.at_ v
  last : st.last = lb.last
  by_ : ∀ v, v < n → ∀ s, lb.by_ v = some s → gi st.by_ v = (s.1 : Int) ∧ s.1 < n
  nat : ∀ v, v < n → 0 ≤ gi st.by_ v ∧ gi st.by_ v < n
  hi : ∀ v, gi st.at_ v ≤ 0
section
variable {d : Nat → Nat → Int} {O : Nat → Nat} {m n : Nat} {st : IS} {lb : Lb (Nat × Nat)}
theorem RelI.relax (h : RelI d O m n st lb) {s : Nat × Nat} (hs : s ∈ cList n n) : RelI d O m n (relaxI d O m st s) (if gOk d O m s then (gArcs d O m).relax farI lb s else lb) := by
  obtain ⟨s1, s2⟩ := cList_mem.1 hs
  by_cases hg : goI d O m st.at_ s = true
  case neg =>
    have hg : goI d O m st.at_ s = false := by simpa using hg
    rw [relaxI_no hg]
    have e : (if gOk d O m s then (gArcs d O m).relax farI lb s else lb) = lb := by
      by_cases ho : gOk d O m s = true
      · rw [if_pos ho]
        refine relax_idle fun hc => ?_
        unfold gOk at ho
        rw [Bool.and_eq_true, Bool.not_eq_true', decide_eq_false_iff_not, Option.isSome_iff_exists] at ho
        obtain ⟨h1, q, hq⟩ := ho
        unfold goI at hg
        rw [hq] at hg
        simp only [decide_eq_false h1, Bool.not_false, Bool.true_and, decide_eq_false_iff_not] at hg
        have h2 := hc.2
        simp only [gArcs, hq, Option.getD_some] at h2
        rw [h.at_ s.1, h.at_ s.2] at hg
        exact hg h2
      · rw [if_neg ho]
    rw [e]; exact h
  rw [relaxI_yes hg]
  unfold goI at hg
  cases hq : chg d O s.1 s.2 m with
  | none => rw [hq] at hg; simp at hg
  | some q =>
    rw [hq] at hg
    simp only [Bool.and_eq_true, Bool.not_eq_true', decide_eq_false_iff_not, decide_eq_true_eq] at hg
    obtain ⟨h1, h2⟩ := hg
    have ho : gOk d O m s = true := by unfold gOk; rw [decide_eq_false h1, hq]; rfl
    have hr : (gArcs d O m).relax farI lb s = (gArcs d O m).put lb s := by
      unfold Arcs.relax
      rw [if_pos]
      refine ⟨?_, ?_⟩
      · show lb.at_ s.1 < farI
        rw [← h.at_]; have := h.hi s.1; unfold farI; omega
      · show lb.at_ s.1 + ((chg d O s.1 s.2 m).getD (0, 0)).2 < lb.at_ s.2
        rw [hq, ← h.at_, ← h.at_]; exact h2
    rw [if_pos ho, hr]
    refine ⟨by simp [h.la], by simp [h.lB], fun v => ?_, rfl, fun v hv t ht => ?_, fun v hv => ?_, fun v => ?_⟩
    · show gi (st.at_.set s.2 _) v = upd lb.at_ s.2 (lb.at_ s.1 + ((chg d O s.1 s.2 m).getD (0, 0)).2) v
      rw [gi_set _ _ _ _ (by rw [h.la]; exact s2)]
      by_cases e : s.2 = v
      · rw [if_pos e, ← e, upd_same, hq, h.at_]
      · rw [if_neg e, upd_ne (fun h => e h.symm)]; exact h.at_ v
    · have ht : upd lb.by_ s.2 (some s) v = some t := ht
      show gi (st.by_.set s.2 _) v = _ ∧ _
      rw [gi_set _ _ _ _ (by rw [h.lB]; exact s2)]
      by_cases e : s.2 = v
      · rw [← e, upd_same] at ht
        injection ht with ht
        subst ht
        rw [if_pos e]; exact ⟨rfl, s1⟩
      · rw [upd_ne (fun h => e h.symm)] at ht
        rw [if_neg e]; exact h.by_ v hv t ht
    · show 0 ≤ gi (st.by_.set s.2 _) v ∧ gi (st.by_.set s.2 _) v < n
      rw [gi_set _ _ _ _ (by rw [h.lB]; exact s2)]
      split
      · omega
      · exact h.nat v hv
    · show gi (st.at_.set s.2 _) v ≤ 0
      rw [gi_set _ _ _ _ (by rw [h.la]; exact s2)]
      split
      · have := h.hi s.2
        rw [Option.getD_some]; omega
      · exact h.hi v
theorem RelI.fold : ∀ {L : List (Nat × Nat)} {st : IS} {lb : Lb (Nat × Nat)}, (∀ s ∈ L, s ∈ cList n n) → RelI d O m n st lb → RelI d O m n (L.foldl (relaxI d O m) st) ((L.filter (gOk d O m)).foldl ((gArcs d O m).relax farI) lb)
  | [], _, _, _, h => h
  | s :: L, st, lb, hL, h => by
    have h1 := h.relax (hL s List.mem_cons_self)
    rw [List.foldl_cons]
    by_cases ho : gOk d O m s = true
    · rw [if_pos ho] at h1
      rw [List.filter_cons_of_pos ho, List.foldl_cons]
      exact RelI.fold (fun t ht => hL t (List.mem_cons_of_mem _ ht)) h1
    · rw [if_neg ho] at h1
      rw [List.filter_cons_of_neg ho]
      exact RelI.fold (fun t ht => hL t (List.mem_cons_of_mem _ ht)) h1
theorem RelI.clear (h : RelI d O m n st lb) : RelI d O m n { st with last := -1 } { lb with last := -1 } := ⟨h.la, h.lB, h.at_, rfl, h.by_, h.nat, h.hi⟩
theorem RelI.round (h : RelI d O m n st lb) : RelI d O m n (partI d O m n st n 0) ((gArcs d O m).round farI (gList d O m n) lb) :=
  RelI.fold (L := cList n n) (fun _ hs => hs) h.clear
theorem reachI_rel (h : RelI d O m n st lb) : ∀ r, RelI d O m n (reachI d O m n st r) ((gArcs d O m).reach farI (gList d O m n) lb r)
  | 0 => h
  | r + 1 => (reachI_rel h r).round
theorem startI_rel (hn : 1 ≤ n) : RelI d O m n ⟨List.replicate n 0, List.replicate n 0, -1⟩ ⟨fun _ => 0, fun _ => none, -1⟩ := by
  have hz : ∀ v, gi (List.replicate n 0) v = 0 := fun v => by unfold gi; rw [List.getElem?_replicate]; split <;> rfl
  exact ⟨by simp, by simp, hz, rfl, fun v _ s h => by simp at h, fun v hv => by rw [hz]; omega, fun v => by rw [hz]; omega⟩
/-- how far below nothing the labels are -/
theorem relaxI_lo {K T : Int} (hK : ∀ i k q, chg d O i k m = some q → -K ≤ q.2) (h0 : 0 ≤ K) (hl : st.at_.length = n) (h : ∀ v, -T ≤ gi st.at_ v) {s : Nat × Nat} (hs : s.2 < n) : ∀ v, -(T + K) ≤ gi (relaxI d O m st s).at_ v := by
  intro v
  by_cases hg : goI d O m st.at_ s = true
  · rw [relaxI_yes hg]
    unfold goI at hg
    cases hq : chg d O s.1 s.2 m with
    | none => rw [hq] at hg; simp at hg
    | some q =>
      show _ ≤ gi (st.at_.set s.2 _) v
      rw [gi_set _ _ _ _ (by omega)]
      have h1 := hK _ _ _ hq
      have h2 := h s.1
      have h3 := h v
      split
      · rw [Option.getD_some]; omega
      · omega
  · rw [relaxI_no (by simpa using hg)]
    have := h v; omega
end
/-- what an improvement leaves -/
structure Better (l : List Site) (wd ht : Nat) (O O2 : List Int) : Prop where
  len : O2.length = O.length
  own : OwnIn O2 l.length
  cnt : ∀ i, cntO (oF O2) i O.length = cntO (oF O) i O.length
  cost : costO (dC l wd) (oF O2) O.length < costO (dC l wd) (oF O) O.length
def passL (O : List Int) (pix c : Nat → Nat) : Nat → List Int
  | 0 => O
  | y + 1 => (passL O pix c y).set (pix y) (c y : Int)
theorem passL_length (O : List Int) (pix c : Nat → Nat) : ∀ y, (passL O pix c y).length = O.length
  | 0 => rfl
  | y + 1 => by simp only [passL, List.length_set]; exact passL_length O pix c y
theorem passL_of {O : List Int} {pix c : Nat → Nat} : ∀ {y : Nat}, (∀ t, t < y → pix t < O.length) → oF (passL O pix c y) = passTo (oF O) pix c y
  | 0, _ => rfl
  | y + 1, h => by
    simp only [passL, passTo]
    rw [oF_set (by rw [passL_length]; exact h y (by omega)), passL_of (fun t ht => h t (by omega))]
theorem passL_nat {O : List Int} {pix c : Nat → Nat} (hO : ∀ k, 0 ≤ gi O k) : ∀ {y : Nat}, (∀ t, t < y → pix t < O.length) → ∀ k, 0 ≤ gi (passL O pix c y) k
  | 0, _ => hO
  | y + 1, h => fun k => by
    simp only [passL]
    rw [gi_set _ _ _ _ (by rw [passL_length]; exact h y (by omega))]
    split
    · omega
    · exact passL_nat hO (fun t ht => h t (by omega)) k
theorem own_nat {O : List Int} {n : Nat} (h : OwnIn O n) (k : Nat) : 0 ≤ gi O k := by
  by_cases hk : k < O.length
  · rw [(oF_lt h hk).2]; omega
  · rw [gi_out (by omega)]; omega
theorem pass_better {l : List Site} {wd ht : Nat} {O : List Int} {c pix : Nat → Nat} {len : Nat} (hO : OwnIn O l.length) (h : ImpGo (dC l wd) (oF O) O.length l.length c pix len) : Better l wd ht O (passL O pix c len) := by
  have e := passL_of (O := O) (pix := pix) (c := c) (y := len) h.pix_
  refine ⟨passL_length _ _ _ _, fun j hj => ⟨oF (passL O pix c len) j, ?_, ?_⟩, fun i => by rw [e]; exact h.cnt i, by rw [e]; exact h.cost⟩
  · have := passL_nat (pix := pix) (c := c) (own_nat hO) (y := len) h.pix_ j
    rw [← gi_at hj]
    unfold oF; omega
  · rw [e]; exact h.own j (by rw [passL_length] at hj; exact hj)
/-- going back by the list -/
def backI (by_ : List Int) (v : Nat) : Nat → Nat
  | 0 => v
  | y + 1 => (gi by_ (backI by_ v y)).toNat
theorem back_pred {d : Nat → Nat → Int} {O : Nat → Nat} {m n : Nat} {st : IS} {lb : Lb (Nat × Nat)} (h : RelI d O m n st lb) {v : Nat} : ∀ {y : Nat}, (∀ z, z < y → predK (gArcs d O m) lb.by_ v z < n ∧ ∃ s, lb.by_ (predK (gArcs d O m) lb.by_ v z) = some s) → backI st.by_ v y = predK (gArcs d O m) lb.by_ v y
  | 0, _ => rfl
  | y + 1, hz => by
    have ih := back_pred h (y := y) (fun z hz' => hz z (by omega))
    obtain ⟨h1, s, hs⟩ := hz y (by omega)
    simp only [backI, predK, predO]
    rw [hs, ih, (h.by_ _ h1 s hs).1, Int.toNat_natCast]; rfl
end Go.Proofs.Ytodlbgncdggimaa
