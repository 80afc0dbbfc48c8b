/- Plain words and general laws, merged: P11 P12. -/
import Derived.Test.YtodlbgncdggimaaP10
/- Plain words of cells: the lists of the program's share, told by the theory of labels. -/
namespace Go.Proofs.Ytodlbgncdggimaa
open Go.RowKit

def gi (l : List Int) (i : Nat) : Int := l[i]?.getD 0
theorem gi_def (l : List Int) (i : Nat) : l[i]?.getD 0 = gi l i := rfl
theorem gi_at {l : List Int} {i : Nat} (h : i < l.length) : gi l i = l[i] := by simp [gi, h]
theorem gi_out {l : List Int} {i : Nat} (h : l.length ≤ i) : gi l i = 0 := by simp [gi, h]
theorem gi_set (l : List Int) (i j : Nat) (v : Int) (hi : i < l.length) : gi (l.set i v) j = if i = j then v else gi l j := by
  unfold gi
  rw [List.getElem?_set]
  by_cases h : i = j
  · subst h; simp [hi]
  · simp [h]
/-- what a pixel costs at a site -/
def dC (l : List Site) (wd : Nat) (k i : Nat) : Int := sqAt l (pxx wd k) (pxy wd k) i
/-- the owner of a pixel -/
def oF (O : List Int) (k : Nat) : Nat := (gi O k).toNat
def OwnIn (O : List Int) (n : Nat) : Prop := ∀ j, (h : j < O.length) → ∃ i : Nat, O[j] = i ∧ i < n
theorem oF_lt {O : List Int} {n k : Nat} (h : OwnIn O n) (hk : k < O.length) : oF O k < n ∧ gi O k = (oF O k : Int) := by
  obtain ⟨i, h1, h2⟩ := h k hk
  unfold oF
  rw [gi_at hk, h1]; simp [h2]
theorem oF_set {O : List Int} {k v : Nat} (hk : k < O.length) : oF (O.set k (v : Int)) = upd (oF O) k v := funext fun j => by
  unfold oF
  rw [gi_set _ _ _ _ hk]
  by_cases e : k = j
  · subst e; rw [if_pos rfl, upd_same, Int.toNat_natCast]
  · rw [if_neg e, upd_ne (fun h => e h.symm)]
theorem cost_c (l : List Site) (wd : Nat) (O : List Int) : ∀ k, costTo l wd O k = costO (dC l wd) (oF O) k
  | 0 => rfl
  | k + 1 => by rw [costTo, costO, cost_c l wd O k]; rfl
theorem cnt_c {O : List Int} {n : Nat} (h : OwnIn O n) (i : Nat) : ∀ k, k ≤ O.length → ((cntTo O (i : Int) k : Nat) : Int) = cntO (oF O) i k
  | 0, _ => rfl
  | k + 1, hk => by
    have ih := cnt_c h i k (by omega)
    have h1 := (oF_lt h (show k < O.length by omega)).2
    rw [cntTo, cntO, ← ih, gi_def, h1]
    by_cases e : oF O k = i
    · rw [if_pos e, if_pos (by rw [e])]; simp
    · rw [if_neg e, if_neg (fun h => e (by omega))]; simp
theorem pix_tight {wd ht k : Nat} (hw1 : 1 ≤ wd) (hw2 : wd ≤ 12) (hh : ht ≤ 12) (hk : k < wd * ht) : 0 ≤ pxx wd k ∧ pxx wd k ≤ 11 ∧ 0 ≤ pxy wd k ∧ pxy wd k ≤ 11 := by
  unfold pxx pxy
  have h1 : k % wd < wd := Nat.mod_lt _ (by omega)
  have h2 : k / wd < ht := Nat.div_lt_of_lt_mul hk
  have e1 : (k : Int) % (wd : Int) = ((k % wd : Nat) : Int) := by simp
  have e2 : (k : Int) / (wd : Int) = ((k / wd : Nat) : Int) := by simp
  rw [e1, e2]
  generalize k % wd = a at *
  generalize k / wd = b at *
  omega
theorem sq_tight {s : Site} (hs : okSite s = true) {x y : Int} (hx : 0 ≤ x ∧ x ≤ 11) (hy : 0 ≤ y ∧ y ≤ 11) : 0 ≤ sq s x y ∧ sq s x y ≤ 3362 := by
  unfold okSite at hs
  rw [Bool.and_eq_true, Bool.and_eq_true, withinB_iff, withinB_iff] at hs
  have key : ∀ d : Int, -41 ≤ d → d ≤ 41 → 0 ≤ d * d ∧ d * d ≤ 1681 := fun d h1 h2 => by
    refine ⟨by rcases Int.le_total 0 d with h | h; exact Int.mul_nonneg h h; exact Int.mul_nonneg_of_nonpos_of_nonpos h h, ?_⟩
    have h3 : (41 - d) * (41 + d) ≥ 0 := Int.mul_nonneg (by omega) (by omega)
    have h4 : (41 - d) * (41 + d) = 1681 - d * d := by rw [Int.sub_mul, Int.mul_add, Int.mul_add]; omega
    omega
  have h1 := key (x - s.x) (by omega) (by omega)
  have h2 := key (y - s.y) (by omega) (by omega)
  unfold sq
  omega
/-- a right field: its sites, its sides -/
structure CellOk (l : List Site) (wd ht : Nat) : Prop where
  sites : okSites l = true
  w1 : 1 ≤ wd
  w2 : wd ≤ 12
  h2 : ht ≤ 12
theorem CellOk.n {l : List Site} {wd ht : Nat} (h : CellOk l wd ht) : 1 ≤ l.length ∧ l.length ≤ 5 := okSites_len h.sites
theorem CellOk.pix {l : List Site} {wd ht : Nat} (h : CellOk l wd ht) : wd * ht ≤ 144 := Nat.le_trans (Nat.mul_le_mul h.w2 h.h2) (by omega)
theorem dC_bd {l : List Site} {wd ht k i : Nat} (h : CellOk l wd ht) (hk : k < wd * ht) (hi : i < l.length) : 0 ≤ dC l wd k i ∧ dC l wd k i ≤ 3362 := by
  obtain ⟨h1, h2, h3, h4⟩ := pix_tight h.w1 h.w2 h.h2 hk
  unfold dC
  rw [sqAt_in hi]
  exact sq_tight (okSites_at h.sites hi) ⟨h1, h2⟩ ⟨h3, h4⟩
/-! the labels of share, in lists -/
def farC : Int := 1000000
structure CS where
  at_ : List Int
  by_ : List (Int × Int)
  last : Int
def gp (b : List (Int × Int)) (v : Nat) : Int × Int := b[v]?.getD (-1, -1)
theorem gp_set (b : List (Int × Int)) (i j : Nat) (v : Int × Int) (hi : i < b.length) : gp (b.set i v) j = if i = j then v else gp b j := by
  unfold gp
  rw [List.getElem?_set]
  by_cases h : i = j
  · subst h; simp [hi]
  · simp [h]
def newC (l : List Site) (wd : Nat) (O at_ : List Int) (s : Nat × Nat) : Int := gi at_ (oF O s.1) - dC l wd s.1 (oF O s.1) + dC l wd s.1 s.2
def relaxC (l : List Site) (wd : Nat) (O : List Int) (st : CS) (s : Nat × Nat) : CS :=
  if newC l wd O st.at_ s < gi st.at_ s.2 then ⟨st.at_.set s.2 (newC l wd O st.at_ s), st.by_.set s.2 ((oF O s.1 : Int), (s.1 : Int)), s.2⟩ else st
theorem relaxC_no {l : List Site} {wd : Nat} {O : List Int} {st : CS} {s : Nat × Nat} (h : ¬ newC l wd O st.at_ s < gi st.at_ s.2) : relaxC l wd O st s = st := by unfold relaxC; rw [if_neg h]
theorem relaxC_yes {l : List Site} {wd : Nat} {O : List Int} {st : CS} {s : Nat × Nat} (h : newC l wd O st.at_ s < gi st.at_ s.2) : relaxC l wd O st s = ⟨st.at_.set s.2 (newC l wd O st.at_ s), st.by_.set s.2 ((oF O s.1 : Int), (s.1 : Int)), s.2⟩ := by unfold relaxC; rw [if_pos h]
def viewC (st : CS) : Lb (Nat × Nat) := ⟨gi st.at_, fun v => if (gp st.by_ v).1 < 0 then none else some ((gp st.by_ v).2.toNat, v), st.last⟩
/-- the state as far as pixel k, site j of a round -/
def partC (l : List Site) (wd : Nat) (O : List Int) (st : CS) (k j : Nat) : CS := ((List.range j).map fun q => (k, q)).foldl (relaxC l wd O) ((cList k l.length).foldl (relaxC l wd O) { st with last := -1 })
theorem partC_zero (l : List Site) (wd : Nat) (O : List Int) (st : CS) : partC l wd O st 0 0 = { st with last := -1 } := rfl
theorem partC_succ (l : List Site) (wd : Nat) (O : List Int) (st : CS) (k j : Nat) : partC l wd O st k (j + 1) = relaxC l wd O (partC l wd O st k j) (k, j) := by
  unfold partC
  rw [List.range_succ, List.map_append, List.foldl_append]; rfl
theorem partC_row (l : List Site) (wd : Nat) (O : List Int) (st : CS) (k : Nat) : partC l wd O st k l.length = partC l wd O st (k + 1) 0 := by
  unfold partC
  rw [cList_succ, List.foldl_append]; rfl
def roundC (l : List Site) (wd : Nat) (O : List Int) (st : CS) (m : Nat) : CS := partC l wd O st m 0
/-- what holds of the state at any time: m pixels are given, pixel m is new -/
structure Good (l : List Site) (wd ht m : Nat) (O : List Int) (p : Nat → Int) (st : CS) : Prop where
  la : st.at_.length = l.length
  lb : st.by_.length = l.length
  run : RunInv (cArcs (dC l wd) (oF O)) farC l.length (cList m l.length) p (dC l wd m) (viewC st)
  by_ : ∀ v, v < l.length → gp st.by_ v = (-1, (m : Int)) ∨ ∃ k, k < m ∧ gp st.by_ v = ((oF O k : Int), (k : Int))
section
variable {l : List Site} {wd ht m : Nat} {O : List Int} {p : Nat → Int} {st : CS}
theorem Good.hi (h : Good l wd ht m O p st) (hc : CellOk l wd ht) (hm : m < wd * ht) {v : Nat} (hv : v < l.length) : gi st.at_ v ≤ 3362 := by
  have h1 := h.run.le v
  have h2 := dC_bd hc hm hv
  have : (viewC st).at_ v = gi st.at_ v := rfl
  omega
theorem Good.lo (h : Good l wd ht m O p st) (hc : CellOk l wd ht) (hm : m < wd * ht) (hO : OwnIn O l.length) (hOl : m ≤ O.length) {v : Nat} (hv : v < l.length) : -13448 ≤ gi st.at_ v := by
  have hn := hc.n
  have hin := cArcs_in (d := dC l wd) (O := oF O) (m := m) (n := l.length) (fun k hk => (oF_lt hO (by omega)).1)
  have h1 := h.run.inv.low hin (K := 3362) (F := 0) (by omega) (fun s hs => by
    obtain ⟨a, b⟩ := cList_mem.1 hs
    have h2 := dC_bd hc (show s.1 < wd * ht by omega) b
    have h3 := dC_bd hc (show s.1 < wd * ht by omega) (oF_lt hO (show s.1 < O.length by omega)).1
    simp only [cArcs]; omega) (fun v hv => (dC_bd hc hm hv).1) hv
  have h2 : ((l.length : Int) - 1) * 3362 ≤ 13448 := by omega
  have : (viewC st).at_ v = gi st.at_ v := rfl
  omega
theorem Good.relax (h : Good l wd ht m O p st) (hc : CellOk l wd ht) (hm : m < wd * ht) (hO : OwnIn O l.length) (hOl : m ≤ O.length) (hp : FitsTo (dC l wd) (oF O) m l.length p) {s : Nat × Nat} (hs : s ∈ cList m l.length) :
    Good l wd ht m O p (relaxC l wd O st s) ∧ viewC (relaxC l wd O st s) = (cArcs (dC l wd) (oF O)).relax farC (viewC st) s := by
  obtain ⟨s1, s2⟩ := cList_mem.1 hs
  have hof := (oF_lt hO (show s.1 < O.length by omega)).1
  have hin := cArcs_in (d := dC l wd) (O := oF O) (m := m) (n := l.length) (fun k hk => (oF_lt hO (by omega)).1)
  have hfar : gi st.at_ (oF O s.1) < farC := by have := h.hi hc hm hof; unfold farC; omega
  have hv : viewC (relaxC l wd O st s) = (cArcs (dC l wd) (oF O)).relax farC (viewC st) s := by
    have e : newC l wd O st.at_ s = (viewC st).at_ (oF O s.1) + (cArcs (dC l wd) (oF O)).ln s := by
      show gi st.at_ (oF O s.1) - dC l wd s.1 (oF O s.1) + dC l wd s.1 s.2 = gi st.at_ (oF O s.1) + (dC l wd s.1 s.2 - dC l wd s.1 (oF O s.1))
      omega
    by_cases hcd : newC l wd O st.at_ s < gi st.at_ s.2
    · have hr : (cArcs (dC l wd) (oF O)).relax farC (viewC st) s = (cArcs (dC l wd) (oF O)).put (viewC st) s := by
        unfold Arcs.relax
        rw [if_pos ⟨hfar, by rw [e] at hcd; exact hcd⟩]
      rw [relaxC_yes hcd, hr, e]
      unfold viewC Arcs.put
      congr 1
      · exact funext fun v => by
          rw [gi_set _ _ _ _ (by rw [h.la]; exact s2)]
          by_cases e2 : s.2 = v
          · rw [if_pos e2, ← e2]; show _ = upd _ s.2 _ s.2; rw [upd_same]; rfl
          · rw [if_neg e2]; show _ = upd _ s.2 _ v; rw [upd_ne (fun h => e2 h.symm)]
      · exact funext fun v => by
          rw [gp_set _ _ _ _ (by rw [h.lb]; exact s2)]
          by_cases e2 : s.2 = v
          · rw [if_pos e2, ← e2]
            show (if ((oF O s.1 : Nat) : Int) < 0 then none else some (((s.1 : Nat) : Int).toNat, s.2)) = upd _ s.2 _ s.2
            rw [upd_same, if_neg (by omega), Int.toNat_natCast]
          · rw [if_neg e2]; show _ = upd _ s.2 _ v; rw [upd_ne (fun h => e2 h.symm)]
    · have hr : (cArcs (dC l wd) (oF O)).relax farC (viewC st) s = viewC st := relax_idle (fun h2 => hcd (by rw [e]; exact h2.2))
      rw [relaxC_no hcd, hr]
  refine ⟨⟨?_, ?_, by rw [hv]; exact h.run.relax hin (fits_pot.1 hp) hs, fun v hv2 => ?_⟩, hv⟩
  · unfold relaxC; split
    · simp [h.la]
    · exact h.la
  · unfold relaxC; split
    · simp [h.lb]
    · exact h.lb
  · unfold relaxC; split
    · show gp (st.by_.set s.2 _) v = _ ∨ ∃ k, k < m ∧ gp (st.by_.set s.2 _) v = _
      rw [gp_set _ _ _ _ (by rw [h.lb]; exact s2)]
      by_cases e2 : s.2 = v
      · rw [if_pos e2]; exact .inr ⟨s.1, s1, rfl⟩
      · rw [if_neg e2]; exact h.by_ v hv2
    · exact h.by_ v hv2
theorem Good.last (h : Good l wd ht m O p st) (k : Int) : Good l wd ht m O p { st with last := k } := ⟨h.la, h.lb, h.run.last k, h.by_⟩
theorem Good.fold (hc : CellOk l wd ht) (hm : m < wd * ht) (hO : OwnIn O l.length) (hOl : m ≤ O.length) (hp : FitsTo (dC l wd) (oF O) m l.length p) : ∀ {L : List (Nat × Nat)} {st : CS}, (∀ s ∈ L, s ∈ cList m l.length) → Good l wd ht m O p st →
    Good l wd ht m O p (L.foldl (relaxC l wd O) st) ∧ viewC (L.foldl (relaxC l wd O) st) = L.foldl ((cArcs (dC l wd) (oF O)).relax farC) (viewC st)
  | [], _, _, h => ⟨h, rfl⟩
  | s :: L, st, hL, h => by
    obtain ⟨h1, h2⟩ := h.relax hc hm hO hOl hp (hL s List.mem_cons_self)
    rw [List.foldl_cons, List.foldl_cons, ← h2]
    exact Good.fold hc hm hO hOl hp (fun t ht => hL t (List.mem_cons_of_mem _ ht)) h1
theorem Good.part (h : Good l wd ht m O p st) (hc : CellOk l wd ht) (hm : m < wd * ht) (hO : OwnIn O l.length) (hOl : m ≤ O.length) (hp : FitsTo (dC l wd) (oF O) m l.length p) {k j : Nat} (hk : k < m ∨ (k = m ∧ j = 0)) (hj : j ≤ l.length) : Good l wd ht m O p (partC l wd O st k j) := by
  unfold partC
  rw [← List.foldl_append]
  refine (Good.fold hc hm hO hOl hp (fun s hs => ?_) (h.last (-1))).1
  rcases List.mem_append.1 hs with hs | hs
  · obtain ⟨a, b⟩ := cList_mem.1 hs
    exact cList_mem.2 ⟨by omega, b⟩
  · obtain ⟨q, hq, rfl⟩ := List.mem_map.1 hs
    have := List.mem_range.1 hq
    exact cList_mem.2 ⟨by omega, by show q < l.length; omega⟩
theorem Good.round (h : Good l wd ht m O p st) (hc : CellOk l wd ht) (hm : m < wd * ht) (hO : OwnIn O l.length) (hOl : m ≤ O.length) (hp : FitsTo (dC l wd) (oF O) m l.length p) : Good l wd ht m O p (roundC l wd O st m) ∧ viewC (roundC l wd O st m) = (cArcs (dC l wd) (oF O)).round farC (cList m l.length) (viewC st) :=
  Good.fold hc hm hO hOl hp (fun _ hs => hs) (h.last (-1))
/-- how far the labels can fall: a measure -/
def muC (l : List Site) (st : CS) : Int := sumN (gi st.at_) l.length + 13448 * l.length
theorem Good.mu (h : Good l wd ht m O p st) (hc : CellOk l wd ht) (hm : m < wd * ht) (hO : OwnIn O l.length) (hOl : m ≤ O.length) : 0 ≤ muC l st := by
  have h1 : sumN (fun _ => -13448) l.length ≤ sumN (gi st.at_) l.length := sumN_le fun i hi => h.lo hc hm hO hOl hi
  have h2 : sumN (fun _ => -13448) l.length = -13448 * l.length := by
    have := sumN_mul (-13448) (fun _ => 1) l.length
    have e : ∀ n, sumN (fun _ => (1 : Int)) n = n := by
      intro n
      induction n with
      | zero => rfl
      | succ n ih => simp only [sumN]; rw [ih]; omega
    rw [e] at this
    simpa using this
  unfold muC
  omega
theorem Good.falls (h : Good l wd ht m O p st) (hc : CellOk l wd ht) (hm : m < wd * ht) (hO : OwnIn O l.length) (hOl : m ≤ O.length) (hp : FitsTo (dC l wd) (oF O) m l.length p) (hl : 0 ≤ (roundC l wd O st m).last) : muC l (roundC l wd O st m) < muC l st := by
  have hin := cArcs_in (d := dC l wd) (O := oF O) (m := m) (n := l.length) (fun k hk => (oF_lt hO (by omega)).1)
  obtain ⟨_, h2⟩ := h.round hc hm hO hOl hp
  have h3 : 0 ≤ ((cArcs (dC l wd) (oF O)).round farC (cList m l.length) (viewC st)).last := by rw [← h2]; exact hl
  have h4 := round_sum hin h3
  rw [← h2] at h4
  unfold muC
  have e1 : sumN (viewC (roundC l wd O st m)).at_ l.length = sumN (gi (roundC l wd O st m).at_) l.length := rfl
  have e2 : sumN (viewC st).at_ l.length = sumN (gi st.at_) l.length := rfl
  omega
theorem Good.stays (h : Good l wd ht m O p st) (hc : CellOk l wd ht) (hm : m < wd * ht) (hO : OwnIn O l.length) (hOl : m ≤ O.length) (hp : FitsTo (dC l wd) (oF O) m l.length p) (hl : (roundC l wd O st m).last < 0) :
    (roundC l wd O st m).at_ = st.at_ ∧ (cArcs (dC l wd) (oF O)).Sat farC (cList m l.length) (viewC (roundC l wd O st m)).at_ := by
  obtain ⟨h1, h2⟩ := h.round hc hm hO hOl hp
  have h3 : ((cArcs (dC l wd) (oF O)).round farC (cList m l.length) (viewC st)).last < 0 := by rw [← h2]; exact hl
  obtain ⟨h4, h5⟩ := last_sat h3
  have h6 : (viewC (roundC l wd O st m)).at_ = (viewC st).at_ := by rw [h2, h5]
  refine ⟨List.ext_getElem (by rw [h1.la, h.la]) fun j a b => ?_, by rw [h6]; exact h4⟩
  have := congrFun h6 j
  have e1 : gi (roundC l wd O st m).at_ j = gi st.at_ j := this
  rwa [gi_at a, gi_at b] at e1
theorem Good.start (hl : ∀ v, v < l.length → 0 ≤ dC l wd m v ∧ dC l wd m v ≤ 3362) {at_ : List Int} {by_ : List (Int × Int)} (h1 : at_.length = l.length) (h2 : by_.length = l.length) (h3 : ∀ v, v < l.length → gi at_ v = dC l wd m v) (h4 : ∀ v, v < l.length → gp by_ v = (-1, (m : Int))) (k : Int) :
    Good l wd ht m O p ⟨at_, by_, k⟩ := by
  have hd : ∀ v, l.length ≤ v → dC l wd m v = 0 := fun v hv => by
    unfold dC sqAt
    rw [List.getElem?_eq_none hv]
  have e1 : gi at_ = dC l wd m := funext fun v => by
    by_cases hv : v < l.length
    · exact h3 v hv
    · rw [gi_out (by omega), hd v (by omega)]
  have e2 : (fun v => if (gp by_ v).1 < 0 then none else some ((gp by_ v).2.toNat, v)) = fun _ => (none : Option (Nat × Nat)) := funext fun v => by
    by_cases hv : v < l.length
    · rw [h4 v hv]; rfl
    · unfold gp; rw [List.getElem?_eq_none (by omega)]; rfl
  refine ⟨h1, h2, ?_, fun v hv => .inl (h4 v hv)⟩
  have e3 : viewC ⟨at_, by_, k⟩ = ⟨dC l wd m, fun _ => none, k⟩ := by unfold viewC; rw [e1, e2]
  rw [e3]
  exact run_start (fun v hv => by have := hl v hv; unfold farC; omega) k
end
end Go.Proofs.Ytodlbgncdggimaa
/- Plain words of cells: one pixel more, and all of them; what share hands back. -/
namespace Go.Proofs.Ytodlbgncdggimaa
open Go.RowKit

/-- the best site whose share is not full, of the first k -/
def bestS (left far : List Int) : Nat → Int
  | 0 => -1
  | k + 1 => if 0 < gi left k ∧ (bestS left far k < 0 ∨ gi far k < gi far (bestS left far k).toNat) then (k : Int) else bestS left far k
theorem bestS_bd (left far : List Int) : ∀ k, -1 ≤ bestS left far k ∧ bestS left far k < k
  | 0 => by simp [bestS]
  | k + 1 => by
    have := bestS_bd left far k
    simp only [bestS]
    split <;> omega
theorem bestS_no {left far : List Int} : ∀ {k : Nat}, bestS left far k < 0 → ∀ v, v < k → ¬ 0 < gi left v
  | 0, _, v, hv => by omega
  | k + 1, h, v, hv => by
    simp only [bestS] at h
    split at h
    · omega
    · rename_i hn
      by_cases e : v = k
      · subst e; exact fun h2 => hn ⟨h2, .inl h⟩
      · exact bestS_no h v (by omega)
theorem bestS_yes {left far : List Int} : ∀ {k : Nat}, 0 ≤ bestS left far k → (bestS left far k).toNat < k ∧ 0 < gi left (bestS left far k).toNat
  | 0, h => by simp [bestS] at h
  | k + 1, h => by
    simp only [bestS] at h ⊢
    split
    · rename_i hn; exact ⟨by omega, by simpa using hn.1⟩
    · rename_i hn
      rw [if_neg hn] at h
      have := bestS_yes h
      exact ⟨by omega, this.2⟩
theorem bestS_1 {left far : List Int} {k : Nat} (h : ¬ 0 < gi left k) : bestS left far (k + 1) = bestS left far k := by simp only [bestS]; rw [if_neg (fun h2 => h h2.1)]
theorem bestS_2 {left far : List Int} {k : Nat} (h : 0 < gi left k) (h2 : bestS left far k < 0) : bestS left far (k + 1) = k := by simp only [bestS]; rw [if_pos ⟨h, .inl h2⟩]
theorem bestS_3 {left far : List Int} {k q : Nat} (h : 0 < gi left k) (h2 : bestS left far k = q) (h3 : gi far k < gi far q) : bestS left far (k + 1) = k := by simp only [bestS]; rw [if_pos ⟨h, .inr (by rw [h2, Int.toNat_natCast]; exact h3)⟩]
theorem bestS_4 {left far : List Int} {k q : Nat} (h2 : bestS left far k = q) (h3 : ¬ gi far k < gi far q) : bestS left far (k + 1) = bestS left far k := by
  simp only [bestS]
  rw [if_neg]
  rintro ⟨_, h | h⟩
  · omega
  · rw [h2, Int.toNat_natCast] at h; exact h3 h
/-! the state between two pixels -/
structure ShOk (l : List Site) (wd ht : Nat) (S : List Int) (m : Nat) (O left : List Int) : Prop where
  len : O.length = m
  own : OwnIn O l.length
  fits : ∃ p, FitsTo (dC l wd) (oF O) m l.length p
  ll : left.length = l.length
  lf : ∀ i, i < l.length → gi left i = gi S i - cntO (oF O) i m ∧ 0 ≤ gi left i
theorem sumN_one : ∀ n, sumN (fun _ => (1 : Int)) n = n
  | 0 => rfl
  | n + 1 => by simp only [sumN]; rw [sumN_one n]; omega
theorem cnt_total {O : Nat → Nat} {m n : Nat} (h : ∀ k, k < m → O k < n) : sumN (fun i => cntO O i m) n = m := by
  have h1 := wgt_cnt (fun _ => 1) O n m h
  have h2 : ∀ m, wgtO (fun _ => (1 : Int)) O m = m := by
    intro m
    induction m with
    | zero => rfl
    | succ m ih => simp only [wgtO]; rw [ih]; omega
  rw [h2] at h1
  rw [h1]
  exact sumN_congr fun i _ => by omega
theorem sumN_list (S : List Int) : ∀ k, k ≤ S.length → sumN (gi S) k = (S.take k).sum
  | 0, _ => by simp [sumN]
  | k + 1, hk => by
    simp only [sumN]
    rw [sumN_list S k (by omega), List.take_succ_eq_append_getElem (by omega), List.sum_append, gi_at (by omega)]; simp
section
variable {l : List Site} {wd ht m : Nat} {S O left : List Int}
theorem ShOk.some_left (h : ShOk l wd ht S m O left) (hS : S.length = l.length) (hsum : S.sum = (wd * ht : Nat)) (hm : m < wd * ht) : ∃ i, i < l.length ∧ 0 < gi left i := by
  refine Classical.byContradiction fun hn => ?_
  have h1 : sumN (gi left) l.length = sumN (fun _ => 0) l.length := sumN_congr fun i hi => by
    have := (h.lf i hi).2
    have h2 : ¬ 0 < gi left i := fun h3 => hn ⟨i, hi, h3⟩
    omega
  rw [sumN_zero] at h1
  have h2 := cnt_total (O := oF O) (m := m) (n := l.length) (fun k hk => (oF_lt h.own (by rw [h.len]; exact hk)).1)
  have h3 : sumN (gi S) l.length = sumN (fun i => gi left i + cntO (oF O) i m) l.length := sumN_congr fun i hi => by have := (h.lf i hi).1; omega
  rw [sumN_add, h1, h2, sumN_list S _ (by omega), List.take_of_length_le (by omega), hsum] at h3
  omega
theorem ShOk.full (h : ShOk l wd ht S (wd * ht) O left) (hS : S.length = l.length) (hsum : S.sum = (wd * ht : Nat)) : ∀ i, i < l.length → cntO (oF O) i (wd * ht) = gi S i := by
  have h2 := cnt_total (O := oF O) (m := wd * ht) (n := l.length) (fun k hk => (oF_lt h.own (by rw [h.len]; exact hk)).1)
  have h3 : sumN (gi S) l.length = sumN (fun i => gi left i + cntO (oF O) i (wd * ht)) l.length := sumN_congr fun i hi => by have := (h.lf i hi).1; omega
  rw [sumN_add, h2, sumN_list S _ (by omega), List.take_of_length_le (by omega), hsum] at h3
  intro i hi
  have h4 := sumN_all0 (f := gi left) (n := l.length) (fun i hi => (h.lf i hi).2) (by omega) i hi
  have := (h.lf i hi).1
  omega
theorem sh_start (hS : S.length = l.length) (h0 : ∀ i, i < l.length → 0 ≤ gi S i) : ShOk l wd ht S 0 [] S :=
  ⟨rfl, fun j hj => by simp at hj, ⟨fun _ => 0, fun k hk => by omega⟩, hS, fun i hi => ⟨by simp [cntO], h0 i hi⟩⟩
/-- the walk back, in lists -/
def walkL (m : Nat) (st : CS) (O : List Int) (F v : Nat) (Oc : List Int) : Option (Nat → Nat) := walkO (viewC st).by_ (cArcs (dC l wd) (oF O)).fr m F v (oF Oc)
theorem walk_step {p : Nat → Int} {st : CS} {F v : Nat} {Oc : List Int} {O' : Nat → Nat} (hG : Good l wd ht m O p st) (hOc : Oc.length = m + 1) (hv : v < l.length) (h : walkO (viewC st).by_ (cArcs (dC l wd) (oF O)).fr m F v (oF Oc) = some O') :
    ∃ F', F = F' + 1 ∧ ((gp st.by_ v = (-1, (m : Int)) ∧ O' = oF (Oc.set m v)) ∨ ∃ k, k < m ∧ gp st.by_ v = ((oF O k : Int), (k : Int)) ∧ walkO (viewC st).by_ (cArcs (dC l wd) (oF O)).fr m F' (oF O k) (oF (Oc.set k v)) = some O') := by
  cases F with
  | zero => simp [walkO] at h
  | succ F =>
    refine ⟨F, rfl, ?_⟩
    simp only [walkO] at h
    rcases hG.by_ v hv with e | ⟨k, hk, e⟩
    · left
      refine ⟨e, ?_⟩
      have eb : (viewC st).by_ v = none := by simp [viewC, e]
      rw [eb] at h
      injection h with h
      rw [oF_set (by omega)]; exact h.symm
    · right
      refine ⟨k, hk, e, ?_⟩
      have eb : (viewC st).by_ v = some (k, v) := by simp [viewC, e]
      rw [eb] at h
      rw [oF_set (by omega)]
      exact h
/-- the chain from the best site: it ends, and what it leaves -/
theorem walk_all {p : Nat → Int} {st : CS} (hc : CellOk l wd ht) (hm : m < wd * ht) (h : ShOk l wd ht S m O left) (hG : Good l wd ht m O p st) (hs : (cArcs (dC l wd) (oF O)).Sat farC (cList m l.length) (viewC st).at_) {v : Nat} (hv : v < l.length) (hl : 0 < gi left v) :
    ∃ O', walkO (viewC st).by_ (cArcs (dC l wd) (oF O)).fr m l.length v (oF (O ++ [-1])) = some O' ∧ ∀ O2 : List Int, O2.length = m + 1 → (∀ k, k < m + 1 → gi O2 k = (O' k : Int)) → ShOk l wd ht S (m + 1) O2 (left.set v (gi left v - 1)) := by
  have hO : ∀ k, k < m → oF O k < l.length := fun k hk => (oF_lt h.own (by rw [h.len]; exact hk)).1
  have hfar : ∀ v, v < l.length → (viewC st).at_ v < farC := fun v hv => by
    have := hG.hi hc hm hv
    have e : (viewC st).at_ v = gi st.at_ v := rfl
    unfold farC; omega
  have hE := hG.run.end_ hs
  -- the list with one place more is the same function below m, but for the place m, which no walk reads
  obtain ⟨O', e1, e2, e3, e4⟩ := share_more hO hE hfar hv
  have hlen := h.len
  have eo : oF (O ++ [-1]) = oF O := funext fun k => by
    unfold oF gi
    by_cases hk : k < O.length
    · rw [List.getElem?_append_left hk]
    · rw [List.getElem?_append_right (by omega), List.getElem?_eq_none (l := O) (by omega)]
      cases e : k - O.length with
      | zero => simp
      | succ q => simp
  refine ⟨O', by rw [eo]; exact e1, fun O2 h2 h3 => ?_⟩
  have eO2 : ∀ k, k < m + 1 → oF O2 k = O' k := fun k hk => by unfold oF; rw [h3 k hk, Int.toNat_natCast]
  have ecnt : ∀ i, ∀ q, q ≤ m + 1 → cntO (oF O2) i q = cntO O' i q := by
    intro i q
    induction q with
    | zero => intro _; rfl
    | succ q ih => intro hq; simp only [cntO]; rw [ih (by omega), eO2 q (by omega)]
  refine ⟨h2, fun j hj => ⟨O' j, by rw [← gi_at hj]; exact h3 j (by omega), e3 j (by omega)⟩, ⟨(viewC st).at_, fun k hk => by rw [eO2 k hk]; exact e2 k hk⟩, by rw [List.length_set]; exact h.ll, fun i hi => ?_⟩
  rw [gi_set _ _ _ _ (by rw [h.ll]; exact hv), ecnt i _ (Nat.le_refl _), e4 i]
  obtain ⟨l1, l2⟩ := h.lf i hi
  by_cases e : v = i
  · subst e
    rw [if_pos rfl, if_pos rfl]; omega
  · rw [if_neg e, if_neg (fun h => e h.symm)]; omega
end
/-- what share hands back -/
structure ShareOf (l : List Site) (wd ht : Nat) (S O : List Int) : Prop where
  len : O.length = wd * ht
  own : OwnIn O l.length
  fits : ∃ p, FitsTo (dC l wd) (oF O) (wd * ht) l.length p
  cnt : ∀ i, i < l.length → cntO (oF O) i (wd * ht) = gi S i
theorem ShOk.share {l : List Site} {wd ht : Nat} {S O left : List Int} (h : ShOk l wd ht S (wd * ht) O left) (hS : S.length = l.length) (hsum : S.sum = (wd * ht : Nat)) : ShareOf l wd ht S O := ⟨h.len, h.own, h.fits, h.full hS hsum⟩
/-- two such lists of owners cost the same -/
theorem share_same {l : List Site} {wd ht : Nat} {S O O2 : List Int} (h : ShareOf l wd ht S O) (h2 : ShareOf l wd ht S O2) : costTo l wd O (wd * ht) = costTo l wd O2 (wd * ht) := by
  rw [cost_c, cost_c]
  obtain ⟨p, hp⟩ := h.fits
  obtain ⟨p2, hp2⟩ := h2.fits
  have a : ∀ k, k < wd * ht → oF O k < l.length := fun k hk => (oF_lt h.own (by rw [h.len]; exact hk)).1
  have b : ∀ k, k < wd * ht → oF O2 k < l.length := fun k hk => (oF_lt h2.own (by rw [h2.len]; exact hk)).1
  have h3 := fits_least hp a b (fun i hi => by rw [h.cnt i hi, h2.cnt i hi])
  have h4 := fits_least hp2 b a (fun i hi => by rw [h.cnt i hi, h2.cnt i hi])
  omega
end Go.Proofs.Ytodlbgncdggimaa
