/- Plain words and general laws, merged: RH RI RJ RK RL RM RN RO RQ RP. -/
import Derived.Test.YtbejgbflipoboaaP2
import Derived.Test.YtbejgbflipoboaaP1
/- Plain words of roads: what Exists, Least and Cheapest hand back. No program in sight. -/
namespace Go.Proofs.Ytbejgbflipoboaa
open Go.RowKit

def okF (N : Int) (R : List Road) (x : List Int) : Bool := decide (excErr N R x = 0) && okB N.toNat R x
def lstF (N : Int) (R : List Road) (x : List Int) : Int := if okF N R x then costTo R (shipV N.toNat R x).1 R.length else 0
def cheapF (N : Int) (R : List Road) (x : List Int) : List Int := if okF N R x then (shipV N.toNat R x).1 else []
/-- the number of nodes is a natural number -/
theorem exc_nat {N : Int} {R : List Road} {x : List Int} (h : excErr N R x = 0) : ∃ M : Nat, N = M ∧ x.length = M ∧ NetOk (M : Int) R ∧ 1 ≤ M ∧ M ≤ 6 := by
  obtain ⟨h1, h2, _⟩ := excErr_ok h
  have hok := netErr_ok h1
  have hn := hok.n1
  refine ⟨x.length, h2.symm, rfl, by rw [h2]; exact hok, by omega, by omega⟩
theorem okF_flow {N : Int} {R : List Road} {x : List Int} (h : okF N R x = true) : ∃ M : Nat, N = M ∧ x.length = M ∧ NetOk (M : Int) R ∧ excErr (M : Int) R x = 0 ∧ ShipOk M R x ∧ okB M R x = true ∧ FlowR M R x (cheapF N R x) ∧ lstF N R x = costTo R (cheapF N R x) R.length ∧ cheapF N R x = (shipV M R x).1 := by
  unfold lstF cheapF
  rw [if_pos h, if_pos h]
  unfold okF at h
  rw [Bool.and_eq_true, decide_eq_true_eq] at h
  obtain ⟨M, rfl, h2, h3, _⟩ := exc_nat h.1
  have h4 := h.2
  simp only [Int.toNat_natCast] at h4 ⊢
  exact ⟨M, rfl, h2, h3, h.1, ship_ok h.1, h4, ok_flow (ship_ok h.1) h4, by trivial, by trivial⟩
theorem okF_iff {M : Nat} {R : List Road} {x : List Int} (he : excErr (M : Int) R x = 0) : okF (M : Int) R x = true ↔ ∃ g, FlowR M R x g := by
  rw [← okB_flow he]
  unfold okF
  simp [he]
/-- the least is the least -/
theorem lstF_le {M : Nat} {R : List Road} {x g : List Int} (he : excErr (M : Int) R x = 0) (hg : FlowR M R x g) : lstF (M : Int) R x ≤ costTo R g R.length := by
  have ho : okF (M : Int) R x = true := (okF_iff he).2 ⟨g, hg⟩
  obtain ⟨M', e, h2, h3, h4, h5, h6, h7, h8, h9⟩ := okF_flow ho
  obtain rfl : M = M' := by omega
  rw [h8, h9]
  exact ok_least h3 h5 h6 hg
/-- two nets, two excesses: flows of one are flows of the other, at a cost that is d more -/
theorem lstF_eq {M M' : Nat} {R R' : List Road} {x x' : List Int} (he : excErr (M : Int) R x = 0) (he' : excErr (M' : Int) R' x' = 0) (d : Int) (h1 : ∀ g, FlowR M R x g → ∃ g', FlowR M' R' x' g' ∧ costTo R' g' R'.length = costTo R g R.length + d) (h2 : ∀ g', FlowR M' R' x' g' → ∃ g, FlowR M R x g ∧ costTo R' g' R'.length = costTo R g R.length + d) :
    okF (M : Int) R x = okF (M' : Int) R' x' ∧ (okF (M : Int) R x = true → lstF (M' : Int) R' x' = lstF (M : Int) R x + d) := by
  have ho : okF (M : Int) R x = okF (M' : Int) R' x' := by
    rw [Bool.eq_iff_iff, okF_iff he, okF_iff he']
    constructor
    · rintro ⟨g, hg⟩; obtain ⟨g', hg', _⟩ := h1 g hg; exact ⟨g', hg'⟩
    · rintro ⟨g, hg⟩; obtain ⟨g', hg', _⟩ := h2 g hg; exact ⟨g', hg'⟩
  refine ⟨ho, fun ht => ?_⟩
  have ht' := ht
  rw [ho] at ht'
  obtain ⟨M1, e1, _, _, _, _, _, a1, a2, _⟩ := okF_flow ht
  obtain rfl : M = M1 := by omega
  obtain ⟨M2, e2, _, _, _, _, _, b1, b2, _⟩ := okF_flow ht'
  obtain rfl : M' = M2 := by omega
  obtain ⟨g', hg', c1⟩ := h1 _ a1
  obtain ⟨g, hg, c2⟩ := h2 _ b1
  have d1 := lstF_le he' hg'
  have d2 := lstF_le he hg
  omega
end Go.Proofs.Ytbejgbflipoboaa
/- Plain words of roads: barriers, as the reference asks for them. No program in sight. -/
namespace Go.Proofs.Ytbejgbflipoboaa
open Go.RowKit

/-- what is too much in a set, of the first k nodes -/
def inTo (x : List Int) (S : List Bool) (k : Nat) : Int := sumR (fun v => if gb S v then gi x v else 0) k
/-- less what can leave it by the first k roads -/
def lessTo (R : List Road) (x : List Int) (S : List Bool) (N : Nat) : Nat → Int
  | 0 => inTo x S N
  | k + 1 => if gb S (rdK R k).fr.toNat && !gb S (rdK R k).to.toNat then lessTo R x S N k - (rdK R k).wd else lessTo R x S N k
def damB (N : Nat) (R : List Road) (x : List Int) (S : List Bool) : Bool := decide (0 < lessTo R x S N R.length)
theorem inTo_bd {x : List Int} (h : ∀ j, j < x.length → -30 ≤ gi x j ∧ gi x j ≤ 30) (S : List Bool) {k : Nat} (hk : k ≤ x.length) (h6 : x.length ≤ 6) : -180 ≤ inTo x S k ∧ inTo x S k ≤ 180 := by
  have := sumR_bd (f := fun v => if gb S v then gi x v else 0) (A := -30) (B := 30) (n := x.length) (fun i hi => by have := h i hi; split <;> omega) k hk
  unfold inTo
  omega
theorem lessTo_bd {N : Int} {R : List Road} (hok : NetOk N R) {x : List Int} {S : List Bool} {n : Nat} (h : -180 ≤ inTo x S n ∧ inTo x S n ≤ 180) : ∀ k, k ≤ R.length → -180 - 60 * (k : Int) ≤ lessTo R x S n k ∧ lessTo R x S n k ≤ 180
  | 0, _ => by simp only [lessTo]; omega
  | k + 1, hk => by
    have ih := lessTo_bd hok h k (by omega)
    have := hok.wd k (by omega)
    simp only [lessTo, rdK_at (show k < R.length by omega)]
    split <;> omega
theorem lessTo_eq (R : List Road) (x : List Int) (S : List Bool) (N : Nat) : ∀ k, lessTo R x S N k = inTo x S N - sumN (fun k => if gb S (rdK R k).fr.toNat && !gb S (rdK R k).to.toNat then (rdK R k).wd else 0) k
  | 0 => by simp [lessTo, sumN]
  | k + 1 => by
    simp only [lessTo, sumN]
    rw [lessTo_eq R x S N k]
    split <;> omega
theorem damB_iff (N : Nat) (R : List Road) (x : List Int) (S : List Bool) : damB N R x S = true ↔ (netR R).Dam N (gi x) (gb S) := by
  unfold damB NetG.Dam
  rw [lessTo_eq, decide_eq_true_eq]
  have h1 : inTo x S N = sumS (gi x) (gb S) N := sumR_N _ _
  have h2 : (netR R).cut (gb S) = sumN (fun k => if gb S (rdK R k).fr.toNat && !gb S (rdK R k).to.toNat then (rdK R k).wd else 0) R.length := rfl
  rw [h1, h2]
  omega
theorem dam_congr {G : NetG} {N : Nat} (hG : G.Fine N) {x : Nat → Int} {S T : Nat → Bool} (h : ∀ v, v < N → S v = T v) : G.Dam N x S ↔ G.Dam N x T := by
  unfold NetG.Dam
  have h1 : sumS x S N = sumS x T N := sumN_congr fun v hv => by rw [h v hv]
  have h2 : G.cut S = G.cut T := sumN_congr fun k hk => by rw [h _ (hG k hk).1, h _ (hG k hk).2]
  rw [h1, h2]
/-- the set of the bits of a number; the first k are told -/
def bitsTo (N s k : Nat) : List Bool := (List.range N).map fun i => if i < k then s.testBit i else false
theorem bitsTo_length (N s k : Nat) : (bitsTo N s k).length = N := by simp [bitsTo]
theorem bitsTo_zero (N s : Nat) : bitsTo N s 0 = List.replicate N false := by unfold bitsTo; rw [List.eq_replicate_iff]; simp
theorem bitsTo_set {N s k : Nat} : (bitsTo N s k).set k (s.testBit k) = bitsTo N s (k + 1) := List.ext_getElem (by simp [bitsTo]) fun j h1 h2 => by
  rw [List.getElem_set]
  simp only [bitsTo, List.getElem_map, List.getElem_range]
  by_cases e : k = j
  · subst e; simp
  · rw [if_neg e]
    by_cases h : j < k
    · rw [if_pos h, if_pos (by omega)]
    · rw [if_neg h, if_neg (by omega)]
theorem gb_bits {N s v : Nat} (h : v < N) : gb (bitsTo N s N) v = s.testBit v := by simp [gb, bitsTo, h]
/-- none of the first k sets is a barrier -/
def freeTo (N : Nat) (R : List Road) (x : List Int) (k : Nat) : Bool := (List.range k).all fun s => !damB N R x (bitsTo N s N)
theorem freeTo_succ (N : Nat) (R : List Road) (x : List Int) (k : Nat) : freeTo N R x (k + 1) = (freeTo N R x k && !damB N R x (bitsTo N k N)) := by simp [freeTo, List.range_succ]
theorem bits_of (S : Nat → Bool) : ∀ N, ∃ s, s < 2 ^ N ∧ ∀ v, v < N → s.testBit v = S v
  | 0 => ⟨0, by simp, fun v hv => by omega⟩
  | N + 1 => by
    obtain ⟨s, h1, h2⟩ := bits_of S N
    refine ⟨s + (if S N then 2 ^ N else 0), by rw [Nat.pow_succ]; split <;> omega, fun v hv => ?_⟩
    rcases Nat.lt_succ_iff_lt_or_eq.1 hv with hv | rfl
    · split
      · rw [Nat.add_comm, Nat.testBit_two_pow_add_gt hv]; exact h2 v hv
      · exact h2 v hv
    · split
      · rename_i h
        rw [Nat.add_comm, Nat.testBit_two_pow_add_eq, Nat.testBit_lt_two_pow h1, h]; rfl
      · rename_i h
        rw [Nat.add_zero, Nat.testBit_lt_two_pow h1]; simpa using h
/-- the reference's answer is the program's -/
theorem free_ok {M : Nat} {R : List Road} {x : List Int} (he : excErr (M : Int) R x = 0) : freeTo M R x (2 ^ M) = okF (M : Int) R x := by
  have hok := netErr_ok (excErr_ok he).1
  have hG := netR_fine hok
  rw [Bool.eq_iff_iff]
  constructor
  · intro h
    cases hb : okF (M : Int) R x with
    | true => rfl
    | false =>
      have hob : okB M R x = false := by unfold okF at hb; simpa [he] using hb
      have hd := ok_dam he (ship_ok he) hob
      obtain ⟨s, h1, h2⟩ := bits_of (reachedB M R x) M
      have h3 := List.all_eq_true.1 h s (List.mem_range.2 h1)
      have h4 : damB M R x (bitsTo M s M) = true := by
        rw [damB_iff]
        exact (dam_congr hG (fun v hv => by rw [gb_bits hv, h2 v hv])).2 hd
      rw [h4] at h3; simp at h3
  · intro h
    rw [okF_iff he] at h
    obtain ⟨g, hg⟩ := h
    refine List.all_eq_true.2 fun s _ => ?_
    cases hd : damB M R x (bitsTo M s M) with
    | false => rfl
    | true => exact (dam_no hok ((damB_iff M R x _).1 hd) hg).elim
end Go.Proofs.Ytbejgbflipoboaa
/- Plain words of roads: a net turned round, a toll at a node, and what they do to costs. No program in sight. -/
namespace Go.Proofs.Ytbejgbflipoboaa
open Go.RowKit

theorem rdK_map (f : Road → Road) (R : List Road) {k : Nat} (h : k < R.length) : rdK (R.map f) k = f (rdK R k) := by
  rw [rdK_at (by simpa using h), rdK_at h]; simp
/-- the first k roads are changed -/
def mapTo (f : Road → Road) (R : List Road) (k : Nat) : List Road := (R.take k).map f ++ R.drop k
theorem mapTo_zero (f : Road → Road) (R : List Road) : mapTo f R 0 = R := by simp [mapTo]
theorem mapTo_all (f : Road → Road) (R : List Road) : mapTo f R R.length = R.map f := by simp [mapTo]
theorem mapTo_length (f : Road → Road) (R : List Road) (k : Nat) : (mapTo f R k).length = R.length := by simp [mapTo]; omega
theorem mapTo_at (f : Road → Road) (R : List Road) {k j : Nat} (hj : j < R.length) : (mapTo f R k)[j]? = some (if j < k then f R[j] else R[j]) := by
  unfold mapTo
  by_cases h : j < k
  · rw [List.getElem?_append_left (by simp; omega), if_pos h]
    simp [h, hj]
  · rw [List.getElem?_append_right (by simp; omega), if_neg h]
    simp only [List.length_map, List.length_take, List.getElem?_drop]
    rw [show k + (j - min k R.length) = j by omega]
    simp [hj]
theorem mapTo_set (f : Road → Road) (R : List Road) {k : Nat} (hk : k < R.length) : (mapTo f R k).set k (f R[k]) = mapTo f R (k + 1) := List.ext_getElem? fun j => by
  rw [List.getElem?_set]
  by_cases hj : j < R.length
  · rw [mapTo_at f R hj, mapTo_at f R hj, mapTo_length]
    by_cases e : k = j
    · subst e; simp [hk]
    · rw [if_neg e]
      by_cases h : j < k
      · rw [if_pos h, if_pos (by omega)]
      · rw [if_neg h, if_neg (by omega)]
  · rw [List.getElem?_eq_none (by rw [mapTo_length]; omega), List.getElem?_eq_none (by rw [mapTo_length]; omega), mapTo_length]
    by_cases e : k = j
    · subst e; omega
    · rw [if_neg e]
/-! two nets equal -/
def sameNet (N : Int) (R : List Road) (N' : Int) (R' : List Road) : Bool := decide (N = N') && decide (R = R')
/-! turned round -/
def revD (r : Road) : Road := ⟨r.to, r.fr, r.ln, r.wd⟩
def revN (N : Int) (R : List Road) : Int := if netErr N R = 0 then N else 0
def revL (N : Int) (R : List Road) : List Road := if netErr N R = 0 then R.map revD else []
theorem netErr_mk' {N : Int} {R : List Road} (h : NetOk N R) : netErr N R = 0 := by
  unfold netErr
  rw [if_pos (withinB_iff.2 h.n1), if_neg (by have := h.r12; omega), if_pos]
  refine all_yes fun k hk => ?_
  have h1 := h.fr k hk
  have h2 := h.to k hk
  have h3 := h.ne k hk
  have h4 := h.ln k hk
  have h5 := h.wd k hk
  simp only [roadOk, Bool.and_eq_true, withinB_iff, Bool.not_eq_true', decide_eq_false_iff_not]
  exact ⟨h1, h2, h3, h4, h5⟩
theorem rev_ok {N : Int} {R : List Road} (h : NetOk N R) : NetOk N (R.map revD) := by
  refine ⟨h.n1, by simpa using h.r12, fun k hk => ?_, fun k hk => ?_, fun k hk => ?_, fun k hk => ?_, fun k hk => ?_⟩ <;> simp only [List.length_map] at hk <;> simp only [List.getElem_map, revD]
  · exact h.to k hk
  · exact h.fr k hk
  · exact fun e => h.ne k hk e.symm
  · exact h.ln k hk
  · exact h.wd k hk
def negL (x : List Int) : List Int := x.map fun v => -v
theorem gi_neg (x : List Int) (v : Nat) : gi (negL x) v = -gi x v := by
  unfold gi negL
  rw [List.getElem?_map]
  cases x[v]? <;> simp
theorem exc_mk {M : Nat} {R : List Road} {x : List Int} (h : NetOk (M : Int) R) (hl : x.length = M) (hb : ∀ j, j < x.length → -30 ≤ gi x j ∧ gi x j ≤ 30) (hs : sumN (gi x) x.length = 0) : excErr (M : Int) R x = 0 := by
  unfold excErr
  rw [if_neg (by simp [netErr_mk' h]), if_pos, if_pos (by rw [sumR_N]; exact hs)]
  refine ⟨all_yes fun j hj => ?_, by omega⟩
  have := hb j hj
  rw [gi_at hj] at this
  exact withinB_iff.2 this
theorem rev_exc {M : Nat} {R : List Road} {x : List Int} (h : excErr (M : Int) R x = 0) : excErr (M : Int) (R.map revD) (negL x) = 0 := by
  obtain ⟨h1, h2, h3, h4⟩ := excErr_ok h
  have hl : (negL x).length = x.length := by simp [negL]
  refine exc_mk (rev_ok (netErr_ok h1)) (by omega) (fun j hj => ?_) ?_
  · have := h3 j (by omega)
    rw [gi_neg]; omega
  · rw [hl, sumN_congr (g := fun v => (-1) * gi x v) (fun v _ => by rw [gi_neg]; omega), sumN_mul, ← sumR_N, h4]; rfl
theorem rev_out (R : List Road) (f : Nat → Int) (v : Nat) : (netR (R.map revD)).out f v = -(netR R).out f v := by
  have hl : (netR (R.map revD)).K = (netR R).K := by simp [netR]
  unfold NetG.out
  rw [hl]
  have := sumN_mul (-1) (fun k => f k * (one ((netR R).fr k) v - one ((netR R).to k) v)) (netR R).K
  rw [show -(sumN (fun k => f k * (one ((netR R).fr k) v - one ((netR R).to k) v)) (netR R).K) = -1 * sumN (fun k => f k * (one ((netR R).fr k) v - one ((netR R).to k) v)) (netR R).K by omega, ← this]
  refine sumN_congr fun k hk => ?_
  have e : rdK (R.map revD) k = revD (rdK R k) := rdK_map revD R hk
  simp only [netR, e, revD]
  grind
theorem rev_flow {M : Nat} {R : List Road} {x g : List Int} : FlowR M R x g ↔ FlowR M (R.map revD) (negL x) g := by
  unfold FlowR
  have hfs : (netR (R.map revD)).Fs (gi g) ↔ (netR R).Fs (gi g) := by
    unfold NetG.Fs
    have hl : (netR (R.map revD)).K = R.length := by simp [netR]
    rw [hl]
    refine forall_congr' fun k => forall_congr' fun hk => ?_
    have e : rdK (R.map revD) k = revD (rdK R k) := rdK_map revD R hk
    simp only [netR, e, revD]
  rw [hfs, List.length_map]
  refine and_congr_right fun _ => and_congr_right fun _ => forall_congr' fun v => forall_congr' fun hv => ?_
  rw [rev_out, gi_neg]
  omega
theorem rev_cost (R : List Road) (g : List Int) : costTo (R.map revD) g (R.map revD).length = costTo R g R.length := by
  unfold costTo
  rw [List.length_map]
  exact sumR_congr (n := R.length) (fun k hk => by rw [rdK_map revD R hk]; rfl) _ (Nat.le_refl _)
theorem rev_least {M : Nat} {R : List Road} {x : List Int} (h : excErr (M : Int) R x = 0) : okF (M : Int) R x = okF (M : Int) (R.map revD) (negL x) ∧ lstF (M : Int) R x = lstF (M : Int) (R.map revD) (negL x) := by
  obtain ⟨h1, h2⟩ := lstF_eq h (rev_exc h) 0 (fun g hg => ⟨g, rev_flow.1 hg, by rw [rev_cost]; omega⟩) (fun g hg => ⟨g, rev_flow.2 hg, by rw [rev_cost]; omega⟩)
  refine ⟨h1, ?_⟩
  cases hb : okF (M : Int) R x with
  | true => have := h2 hb; omega
  | false =>
    have hb' := hb
    rw [h1] at hb'
    have z : ∀ R' y, okF (M : Int) R' y = false → lstF (M : Int) R' y = 0 := fun R' y h => by unfold lstF; rw [h]; rfl
    rw [z _ _ hb, z _ _ hb']
/-! a toll -/
def tolLn (node by_ : Int) (r : Road) : Int := if r.to = node then r.ln + by_ else if r.fr = node then r.ln - by_ else r.ln
def tolD (node by_ : Int) (r : Road) : Road := ⟨r.fr, r.to, tolLn node by_ r, r.wd⟩
def touch (node : Int) (r : Road) : Bool := decide (r.fr = node) || decide (r.to = node)
def tolOk (node by_ : Int) (r : Road) : Bool := !touch node r || (withinB by_ (-99) 99 && withinB (tolLn node by_ r) 0 99)
def tolErr (N : Int) (R : List Road) (node by_ : Int) : Int := if netErr N R ≠ 0 then netErr N R else if withinB node 0 (N - 1) then (if R.all (tolOk node by_) then 0 else 1) else 4
def tolN (N : Int) (R : List Road) (node by_ : Int) : Int := if tolErr N R node by_ = 0 then N else 0
def tolL (N : Int) (R : List Road) (node by_ : Int) : List Road := if tolErr N R node by_ = 0 then R.map (tolD node by_) else []
theorem tolErr_ok {N : Int} {R : List Road} {node by_ : Int} (h : tolErr N R node by_ = 0) : NetOk N R ∧ (0 ≤ node ∧ node ≤ N - 1) ∧ ∀ k, (hk : k < R.length) → tolOk node by_ R[k] = true := by
  unfold tolErr at h
  by_cases h1 : netErr N R = 0
  · rw [if_neg (by simpa using h1)] at h
    by_cases h2 : withinB node 0 (N - 1) = true
    · rw [if_pos h2] at h
      by_cases h3 : R.all (tolOk node by_) = true
      · exact ⟨netErr_ok h1, withinB_iff.1 h2, fun k hk => all_at h3 hk⟩
      · rw [if_neg h3] at h; simp at h
    · rw [if_neg h2] at h; simp at h
  · rw [if_pos h1] at h; exact absurd h h1
theorem tol_same {node by_ : Int} {r : Road} (h : touch node r = false) : tolD node by_ r = r := by
  unfold touch at h
  rw [Bool.or_eq_false_iff, decide_eq_false_iff_not, decide_eq_false_iff_not] at h
  unfold tolD tolLn
  rw [if_neg h.2, if_neg h.1]
theorem tol_ok {N : Int} {R : List Road} {node by_ : Int} (h : NetOk N R) (ht : ∀ k, (hk : k < R.length) → tolOk node by_ R[k] = true) : NetOk N (R.map (tolD node by_)) := by
  refine ⟨h.n1, by simpa using h.r12, fun k hk => ?_, fun k hk => ?_, fun k hk => ?_, fun k hk => ?_, fun k hk => ?_⟩ <;> simp only [List.length_map] at hk <;> simp only [List.getElem_map]
  · exact h.fr k hk
  · exact h.to k hk
  · exact h.ne k hk
  · have h1 := ht k hk
    have h2 := h.ln k hk
    by_cases hc : touch node R[k] = true
    · unfold tolOk at h1
      rw [hc] at h1
      simp only [Bool.not_true, Bool.false_or, Bool.and_eq_true] at h1
      exact withinB_iff.1 h1.2
    · rw [tol_same (by simpa using hc)]; exact h2
  · exact h.wd k hk
theorem tol_out (node by_ : Int) (R : List Road) (f : Nat → Int) (v : Nat) : (netR (R.map (tolD node by_))).out f v = (netR R).out f v := by
  have hl : (netR (R.map (tolD node by_))).K = (netR R).K := by simp [netR]
  unfold NetG.out
  rw [hl]
  refine sumN_congr fun k hk => ?_
  have e : rdK (R.map (tolD node by_)) k = tolD node by_ (rdK R k) := rdK_map _ R hk
  simp only [netR, e, tolD]
theorem tol_flow {M : Nat} {R : List Road} {x g : List Int} (node by_ : Int) : FlowR M R x g ↔ FlowR M (R.map (tolD node by_)) x g := by
  unfold FlowR
  have hfs : (netR (R.map (tolD node by_))).Fs (gi g) ↔ (netR R).Fs (gi g) := by
    unfold NetG.Fs
    have hl : (netR (R.map (tolD node by_))).K = R.length := by simp [netR]
    rw [hl]
    refine forall_congr' fun k => forall_congr' fun hk => ?_
    have e : rdK (R.map (tolD node by_)) k = tolD node by_ (rdK R k) := rdK_map _ R hk
    simp only [netR, e, tolD]
  rw [hfs, List.length_map]
  refine and_congr_right fun _ => and_congr_right fun _ => forall_congr' fun v => forall_congr' fun hv => ?_
  rw [tol_out]
theorem tol_cost {M : Nat} {R : List Road} {x g : List Int} (hok : NetOk (M : Int) R) {a : Nat} (ha : a < M) (by_ : Int) (hg : FlowR M R x g) : costTo (R.map (tolD a by_)) g (R.map (tolD a by_)).length = costTo R g R.length + -(by_ * gi x a) := by
  have h1 := sum_out (netR_fine hok) (fun v => one a v) (gi g)
  have h2 : sumN (fun v => one a v * (netR R).out (gi g) v) M = (netR R).out (gi g) a := by
    rw [← sum_one (fun v => (netR R).out (gi g) v) ha]
    exact sumN_congr fun v _ => Int.mul_comm _ _
  rw [h2, hg.2.2 a ha] at h1
  rw [h1, costR, costR]
  unfold NetG.cost
  have hl : (netR (R.map (tolD a by_))).K = (netR R).K := by simp [netR]
  rw [hl, ← Int.neg_mul, ← sumN_mul, ← sumN_add]
  refine sumN_congr fun k hk => ?_
  have e : rdK (R.map (tolD a by_)) k = tolD a by_ (rdK R k) := rdK_map _ R hk
  have hk' : k < R.length := hk
  have f1 := hok.fr k hk'
  have f2 := hok.to k hk'
  have f3 := hok.ne k hk'
  simp only [netR, e, tolD, tolLn]
  rw [rdK_at hk']
  generalize R[k].fr = p at *
  generalize R[k].to = q at *
  generalize R[k].ln = d at *
  unfold one
  by_cases c1 : q = (a : Int)
  · rw [if_pos c1, if_neg (show ¬ a = p.toNat by omega), if_pos (show a = q.toNat by omega)]; grind
  · by_cases c2 : p = (a : Int)
    · rw [if_neg c1, if_pos c2, if_pos (show a = p.toNat by omega), if_neg (show ¬ a = q.toNat by omega)]; grind
    · rw [if_neg c1, if_neg c2, if_neg (show ¬ a = p.toNat by omega), if_neg (show ¬ a = q.toNat by omega)]; grind
theorem tol_exc {M : Nat} {R : List Road} {x : List Int} {node by_ : Int} (h1 : NetOk (M : Int) R) (h2 : NetOk (M : Int) (R.map (tolD node by_))) : excErr (M : Int) (R.map (tolD node by_)) x = excErr (M : Int) R x := by
  unfold excErr
  rw [netErr_mk' h1, netErr_mk' h2]
theorem tol_least {N : Int} {R : List Road} {x : List Int} {node by_ : Int} (ht : tolErr N R node by_ = 0) :
    excErr N (R.map (tolD node by_)) x = excErr N R x ∧ okF N (R.map (tolD node by_)) x = okF N R x ∧ (okF N R x = true → lstF N (R.map (tolD node by_)) x = lstF N R x - by_ * gi x node.toNat ∧ (gi x node.toNat ≠ 0 → -99 ≤ by_ ∧ by_ ≤ 99) ∧ node.toNat < x.length) ∧ (okF N R x = false → lstF N R x = 0 ∧ lstF N (R.map (tolD node by_)) x = 0) := by
  obtain ⟨h1, h2, h3⟩ := tolErr_ok ht
  have hn := h1.n1
  obtain ⟨M, rfl⟩ := Int.eq_ofNat_of_zero_le (show 0 ≤ N by omega)
  obtain ⟨a, rfl⟩ := Int.eq_ofNat_of_zero_le h2.1
  have h4 := tol_ok h1 h3
  have h5 := tol_exc (x := x) h1 h4
  rw [Int.toNat_natCast]
  have hzero : ∀ R', okF (M : Int) R' x = false → lstF (M : Int) R' x = 0 := fun R' h => by unfold lstF; rw [h]; rfl
  by_cases he : excErr (M : Int) R x = 0
  · have he' : excErr (M : Int) (R.map (tolD a by_)) x = 0 := by rw [h5]; exact he
    obtain ⟨k1, k2⟩ := lstF_eq he he' (-(by_ * gi x a)) (fun g hg => ⟨g, (tol_flow _ _).1 hg, tol_cost h1 (by omega) by_ hg⟩) (fun g hg => ⟨g, (tol_flow _ _).2 hg, tol_cost h1 (by omega) by_ ((tol_flow _ _).2 hg)⟩)
    refine ⟨h5, k1.symm, fun hb => ⟨by have := k2 hb; omega, fun hx => ?_, by have := (excErr_ok he).2.1; omega⟩, fun hb => ⟨hzero _ hb, hzero _ (by rw [← k1]; exact hb)⟩⟩
    obtain ⟨M', e, _, _, _, _, _, hf, _⟩ := okF_flow hb
    obtain rfl : M = M' := by omega
    refine Classical.byContradiction fun hn => hx ?_
    rw [← hf.2.2 a (by omega)]
    unfold NetG.out
    rw [sumN_congr (g := fun _ => 0) (fun k hk => ?_), sumN_zero]
    have hk' : k < R.length := hk
    have h6 := h3 k hk'
    have h7 : touch (a : Int) R[k] = false := by
      cases ht : touch (a : Int) R[k] with
      | false => rfl
      | true =>
        unfold tolOk at h6
        rw [ht] at h6
        simp only [Bool.not_true, Bool.false_or, Bool.and_eq_true] at h6
        exact absurd (withinB_iff.1 h6.1) hn
    unfold touch at h7
    rw [Bool.or_eq_false_iff, decide_eq_false_iff_not, decide_eq_false_iff_not] at h7
    have f1 := h1.fr k hk'
    have f2 := h1.to k hk'
    simp only [netR, rdK_at hk']
    unfold one
    rw [if_neg (by omega), if_neg (by omega)]; simp
  · have hb : ∀ R', excErr (M : Int) R' x ≠ 0 → okF (M : Int) R' x = false := fun R' h => by unfold okF; simp [h]
    have b1 := hb R he
    have b2 := hb (R.map (tolD a by_)) (by rw [h5]; exact he)
    exact ⟨h5, by rw [b1, b2], fun h => by rw [b1] at h; simp at h, fun _ => ⟨hzero _ b1, hzero _ b2⟩⟩
end Go.Proofs.Ytbejgbflipoboaa
/- Plain words of roads: the reference's ways from a node, and its cheapest flow. No program in sight. -/
namespace Go.Proofs.Ytbejgbflipoboaa
open Go.RowKit

/-- a step as the reference keeps it -/
def arcOf (R : List Road) (s : Int) : Rarc := ⟨stFr R s, stTo R s, stLn R s, stepNo s, sg s⟩
def arcsOf (R : List Road) (L : List Int) : List Rarc := L.map (arcOf R)
def farW : Int := 1000000
structure WS where
  at_ : List Int
  by_ : List Int
def relaxW (R : List Road) (L : List Int) (st : WS) (i : Nat) : WS :=
  if gi st.at_ (stFr R (gi L i)).toNat < farW ∧ gi st.at_ (stFr R (gi L i)).toNat + stLn R (gi L i) < gi st.at_ (stTo R (gi L i)).toNat then
    ⟨st.at_.set (stTo R (gi L i)).toNat (gi st.at_ (stFr R (gi L i)).toNat + stLn R (gi L i)), st.by_.set (stTo R (gi L i)).toNat i⟩ else st
/-- within a round: the first q steps are done -/
def inW (R : List Road) (L : List Int) (st : WS) : Nat → WS
  | 0 => st
  | q + 1 => relaxW R L (inW R L st q) q
def waysTo (R : List Road) (L : List Int) (st : WS) : Nat → WS
  | 0 => st
  | n + 1 => inW R L (waysTo R L st n) L.length
def startW (N a : Nat) : WS := ⟨(List.replicate N farW).set a 0, List.replicate N (-1)⟩
def waysR (N : Nat) (R : List Road) (L : List Int) (a : Nat) : WS := waysTo R L (startW N a) N
/-! bounds -/
structure WsOk (M c n : Nat) (st : WS) : Prop where
  la : st.at_.length = M
  lb : st.by_.length = M
  bd : ∀ i, i < M → -((c : Int) * 99) ≤ gi st.at_ i ∧ gi st.at_ i ≤ 1000000
  by_ : ∀ i, i < M → -1 ≤ gi st.by_ i ∧ gi st.by_ i < n
theorem WsOk.mono {M c c' n : Nat} {st : WS} (h : WsOk M c n st) (hc : c ≤ c') : WsOk M c' n st := ⟨h.la, h.lb, fun i hi => by have := h.bd i hi; omega, h.by_⟩
theorem relaxW_ok {M c : Nat} {R : List Road} {L : List Int} {st : WS} {i : Nat} (hok : NetOk (M : Int) R) (hi : i < L.length) (hs : StepIn R.length (gi L i)) (h : WsOk M c L.length st) : WsOk M (c + 1) L.length (relaxW R L st i) := by
  unfold relaxW
  split
  · rename_i hc
    have hf := stFr_bd hok hs
    have ht := stTo_bd hok hs
    have hl := stLn_bd hok hs
    have h1 := h.bd (stFr R (gi L i)).toNat (by omega)
    have h3 := h.bd (stTo R (gi L i)).toNat (by omega)
    refine ⟨by simp [h.la], by simp [h.lb], fun j hj => ?_, fun j hj => ?_⟩
    · show -(((c + 1 : Nat) : Int) * 99) ≤ gi (st.at_.set _ _) j ∧ gi (st.at_.set _ _) j ≤ _
      rw [gi_set _ _ _ _ (by rw [h.la]; omega)]
      have h2 := h.bd j hj
      split <;> omega
    · show -1 ≤ gi (st.by_.set _ _) j ∧ gi (st.by_.set _ _) j < _
      rw [gi_set _ _ _ _ (by rw [h.lb]; omega)]
      have h2 := h.by_ j hj
      split <;> omega
  · exact h.mono (by omega)
theorem inW_ok {M c : Nat} {R : List Road} {L : List Int} {st : WS} (hok : NetOk (M : Int) R) (hL : ∀ s ∈ L, StepIn R.length s) (h : WsOk M c L.length st) : ∀ q, q ≤ L.length → WsOk M (c + q) L.length (inW R L st q)
  | 0, _ => h
  | q + 1, hq => relaxW_ok hok (by omega) (hL _ (by rw [gi_at (by omega)]; exact List.getElem_mem _)) (inW_ok hok hL h q (by omega))
theorem waysTo_ok {M : Nat} {R : List Road} {L : List Int} {st : WS} (hok : NetOk (M : Int) R) (hL : ∀ s ∈ L, StepIn R.length s) (hl : L.length ≤ 24) (h : WsOk M 0 L.length st) : ∀ j, WsOk M (j * 24) L.length (waysTo R L st j)
  | 0 => by rw [Nat.zero_mul]; exact h
  | j + 1 => (inW_ok hok hL (waysTo_ok hok hL hl h j) L.length (Nat.le_refl _)).mono (by omega)
theorem startW_ok {M a : Nat} (n : Nat) (ha : a < M) : WsOk M 0 n (startW M a) := by
  refine ⟨by simp [startW], by simp [startW], fun i hi => ?_, fun i hi => ?_⟩
  · simp only [startW]
    rw [gi_set _ _ _ _ (by simpa using ha)]
    have : gi (List.replicate M farW) i = farW := by unfold gi; rw [List.getElem?_replicate, if_pos hi]; rfl
    rw [this]
    unfold farW
    split <;> omega
  · simp only [startW]
    have : gi (List.replicate M (-1)) i = -1 := by unfold gi; rw [List.getElem?_replicate, if_pos hi]; rfl
    omega
/-! as labels along arcs -/
def viewB (L : List Int) (st : WS) : Nat → Option Int := fun v => if v < st.by_.length ∧ 0 ≤ gi st.by_ v then L[(gi st.by_ v).toNat]? else none
def SameLb (L : List Int) (st : WS) (lb : Lb Int) : Prop := gi st.at_ = lb.at_ ∧ viewB L st = lb.by_
theorem same_relax {M c : Nat} {R : List Road} {L : List Int} (hok : NetOk (M : Int) R) {st : WS} {lb : Lb Int} (h : SameLb L st lb) (hk : WsOk M c L.length st) {i : Nat} (hi : i < L.length) (hs : StepIn R.length (gi L i)) : SameLb L (relaxW R L st i) ((netR R).arcs.relax farW lb L[i]) := by
  obtain ⟨h1, h2⟩ := h
  have ht := stTo_bd hok hs
  have hgi : gi L i = L[i] := gi_at hi
  unfold relaxW Arcs.relax
  by_cases hc : gi st.at_ (stFr R (gi L i)).toNat < farW ∧ gi st.at_ (stFr R (gi L i)).toNat + stLn R (gi L i) < gi st.at_ (stTo R (gi L i)).toNat
  · rw [if_pos hc, if_pos (by unfold Arcs.Cond; rw [arcR_fr, arcR_to, arcR_ln, ← h1, ← hgi]; exact hc)]
    unfold SameLb Arcs.put
    rw [arcR_fr, arcR_to, arcR_ln, ← hgi]
    refine ⟨funext fun v => ?_, funext fun v => ?_⟩
    · simp only
      rw [gi_set _ _ _ _ (by rw [hk.la]; omega), ← h1]
      simp only [upd]
      by_cases e : v = (stTo R (gi L i)).toNat
      · rw [if_pos e, if_pos e.symm]
      · rw [if_neg e, if_neg (fun h => e h.symm)]
    · simp only [viewB, List.length_set]
      rw [gi_set _ _ _ _ (by rw [hk.lb]; omega), ← h2]
      simp only [upd, viewB]
      have hlb := hk.lb
      by_cases e : v = (stTo R (gi L i)).toNat
      · rw [if_pos e.symm, if_pos e, if_pos (by omega), Int.toNat_natCast, List.getElem?_eq_getElem hi, hgi]
      · have e2 : ¬ (stTo R (gi L i)).toNat = v := fun h => e h.symm
        rw [if_neg e2, if_neg e]
  · rw [if_neg hc, if_neg (by unfold Arcs.Cond; rw [arcR_fr, arcR_to, arcR_ln, ← h1, ← hgi]; exact hc)]
    exact ⟨h1, h2⟩
theorem same_in {M c : Nat} {R : List Road} {L : List Int} (hok : NetOk (M : Int) R) (hL : ∀ s ∈ L, StepIn R.length s) {st : WS} {lb : Lb Int} (h : SameLb L st lb) (hk : WsOk M c L.length st) : ∀ q, q ≤ L.length → SameLb L (inW R L st q) ((L.take q).foldl ((netR R).arcs.relax farW) lb)
  | 0, _ => h
  | q + 1, hq => by
    rw [List.take_succ_eq_append_getElem (by omega), List.foldl_append]
    exact same_relax hok (same_in hok hL h hk q (by omega)) (inW_ok hok hL hk q (by omega)) (by omega) (hL _ (by rw [gi_at (by omega)]; exact List.getElem_mem _))
theorem same_ways {M : Nat} {R : List Road} {L : List Int} (hok : NetOk (M : Int) R) (hL : ∀ s ∈ L, StepIn R.length s) (hl : L.length ≤ 24) {st : WS} {lb : Lb Int} (h : SameLb L st lb) (hk : WsOk M 0 L.length st) : ∀ n, SameLb L (waysTo R L st n) ((netR R).arcs.reach farW L lb n)
  | 0 => h
  | n + 1 => by
    have ih := same_ways hok hL hl h hk n
    have := same_in hok hL (lb := { (netR R).arcs.reach farW L lb n with last := -1 }) ⟨ih.1, ih.2⟩ (waysTo_ok hok hL hl hk n) L.length (Nat.le_refl _)
    rw [List.take_length] at this
    exact this
def firstW (a : Nat) : Nat → Int := fun v => if v = a then 0 else farW
/-- the reference's ways end where nothing gets shorter -/
theorem ways_end {M a : Nat} {R : List Road} {L : List Int} (hok : NetOk (M : Int) R) (hL : ∀ s ∈ L, StepIn R.length s) (hl : L.length ≤ 24) (ha : a < M) {p : Nat → Int} (hp : (netR R).arcs.Pot L p) :
    LEnd (netR R).arcs farW M L p (firstW a) (gi (waysR M R L a).at_) (viewB L (waysR M R L a)) := by
  have hin : (netR R).arcs.In M L := fun s hs => by
    have := hL s hs
    have h1 := stFr_bd hok this
    have h2 := stTo_bd hok this
    rw [arcR_fr, arcR_to]; omega
  have h0 : ∀ v, v < M → gi (startW M a).at_ v = firstW a v := fun v hv => by
    simp only [startW, firstW]
    rw [gi_set _ _ _ _ (by simpa using ha)]
    have : gi (List.replicate M farW) v = farW := by unfold gi; rw [List.getElem?_replicate, if_pos hv]; rfl
    rw [this]
    by_cases e : a = v
    · rw [if_pos e, if_pos e.symm]
    · rw [if_neg e, if_neg (fun h => e h.symm)]
  have hk := startW_ok L.length ha
  -- the state itself, not its told form, beyond the nodes
  have hs : SameLb L (startW M a) ⟨gi (startW M a).at_, fun _ => none, 0⟩ := ⟨rfl, funext fun v => by
    unfold viewB
    rw [if_neg]
    rintro ⟨h1, h2⟩
    have : gi (startW M a).by_ v = -1 := by
      simp only [startW, List.length_replicate] at h1 ⊢; unfold gi; rw [List.getElem?_replicate, if_pos h1]; rfl
    omega⟩
  have h1 := same_ways hok hL hl hs hk M
  have h2 := reach_end (A := (netR R).arcs) (far := farW) (p := p) (first := gi (startW M a).at_) hin hp (fun v hv => (hk.bd v hv).2) 0
  rw [← h1.1, ← h1.2] at h2
  exact ⟨h2.sat, h2.edge, fun v hv hb => by rw [← h0 v hv]; exact h2.root v hv hb, h2.ends, fun v hv => by rw [← h0 v hv]; exact h2.le v hv⟩
/-! how far the nodes are from one, by roads alone -/
def fwdL (n : Nat) : List Int := (List.range n).map fun (k : Nat) => (k : Int) + 1
theorem fwdL_in {n : Nat} : ∀ s ∈ fwdL n, StepIn n s := fun s hs => by
  unfold fwdL at hs
  obtain ⟨k, hk, rfl⟩ := List.mem_map.1 hs
  have := List.mem_range.1 hk
  constructor <;> omega
theorem fwd_pot {M : Nat} {R : List Road} (hok : NetOk (M : Int) R) : (netR R).arcs.Pot (fwdL R.length) (fun _ => 0) := fun s hs => by
  have h1 := fwdL_in s hs
  unfold fwdL at hs
  obtain ⟨k, hk, rfl⟩ := List.mem_map.1 hs
  have hk := List.mem_range.1 hk
  have h2 := hok.ln k hk
  rw [arcR_ln]
  unfold stLn
  rw [if_neg (by omega), show stepNo ((k : Int) + 1) = k by unfold stepNo; omega, rdK_at hk]
  show (0 : Int) ≤ R[k].ln + 0
  omega
def distW (N : Nat) (R : List Road) (a : Nat) : List Int := (waysR N R (fwdL R.length) a).at_
/-- what is far is told as -1 -/
def unfar (x : Int) : Int := if x = farW then -1 else x
def distL (N : Nat) (R : List Road) (a : Nat) : List Int := (distW N R a).map unfar
def distErr (N : Int) (R : List Road) (a : Int) : Int := if netErr N R ≠ 0 then netErr N R else if withinB a 0 (N - 1) then 0 else 4
def distV (N : Int) (R : List Road) (a : Int) : List Int := if distErr N R a = 0 then distL N.toNat R a.toNat else []
theorem distErr_ok {N : Int} {R : List Road} {a : Int} (h : distErr N R a = 0) : NetOk N R ∧ 0 ≤ a ∧ a ≤ N - 1 := by
  unfold distErr at h
  by_cases h1 : netErr N R = 0
  · rw [if_neg (by simpa using h1)] at h
    by_cases h2 : withinB a 0 (N - 1) = true
    · exact ⟨netErr_ok h1, withinB_iff.1 h2⟩
    · rw [if_neg h2] at h; simp at h
  · rw [if_pos h1] at h; exact absurd h h1
theorem dist_end {M a : Nat} {R : List Road} (hok : NetOk (M : Int) R) (ha : a < M) : LEnd (netR R).arcs farW M (fwdL R.length) (fun _ => 0) (firstW a) (gi (distW M R a)) (viewB (fwdL R.length) (waysR M R (fwdL R.length) a)) :=
  ways_end hok fwdL_in (by unfold fwdL; have := hok.r12; simp; omega) ha (fwd_pot hok)
/-- the labels of the reference, told: 0 at the beginning, near where a way leads, far elsewhere; no road makes them shorter -/
structure DistOk (M a : Nat) (R : List Road) (d : Nat → Int) : Prop where
  zero : d a = 0
  near : ∀ v, v < M → d v = farW ∨ (0 ≤ d v ∧ d v ≤ 495)
  road : ∀ k, (h : k < R.length) → d R[k].fr.toNat < farW → d R[k].to.toNat ≤ d R[k].fr.toNat + R[k].ln
theorem ln_fwd {M : Nat} {R : List Road} (hok : NetOk (M : Int) R) : ∀ s ∈ fwdL R.length, 0 ≤ (netR R).arcs.ln s ∧ (netR R).arcs.ln s ≤ 99 := fun s hs => by
  unfold fwdL at hs
  obtain ⟨k, hk, rfl⟩ := List.mem_map.1 hs
  have hk := List.mem_range.1 hk
  have h2 := hok.ln k hk
  rw [arcR_ln]
  unfold stLn
  rw [if_neg (by omega), show stepNo ((k : Int) + 1) = k by unfold stepNo; omega, rdK_at hk]
  omega
theorem in_fwd {M : Nat} {R : List Road} (hok : NetOk (M : Int) R) : (netR R).arcs.In M (fwdL R.length) := fun s hs => by
  have := fwdL_in s hs
  have h1 := stFr_bd hok this
  have h2 := stTo_bd hok this
  rw [arcR_fr, arcR_to]; omega
theorem tele_nonneg {α : Type} {A : Arcs α} {l : List α} (h : ∀ s ∈ l, 0 ≤ A.ln s) : 0 ≤ sumLn A l := by
  induction l with
  | nil => simp [sumLn]
  | cons s l ih =>
    have := ih (fun t ht => h t (List.mem_cons_of_mem _ ht))
    have := h s List.mem_cons_self
    simp only [sumLn]; omega
theorem dist_ok {M a : Nat} {R : List Road} (hok : NetOk (M : Int) R) (ha : a < M) : DistOk M a R (gi (distW M R a)) := by
  have hM := hok.n1
  have h := dist_end hok ha
  have hin := in_fwd hok
  have hnear : ∀ v, v < M → gi (distW M R a) v = farW ∨ (0 ≤ gi (distW M R a) v ∧ gi (distW M R a) v ≤ 495) := fun v hv => by
    obtain ⟨l, r, hc⟩ := h.ends v hv
    obtain ⟨h1, h2, h3, h4, h5⟩ := h.tele hin hv hc
    have h6 := tele_nonneg (A := (netR R).arcs) (l := l) (fun s hs => (ln_fwd hok s (h3 s hs)).1)
    have h7 := hc.short hin hv h3
    have h8 := sumLn_bd (A := (netR R).arcs) (l := l) (K := 99) (fun s hs => by have := ln_fwd hok s (h3 s hs); omega)
    have hle := h.le v hv
    unfold firstW at h4 hle
    by_cases hf : gi (distW M R a) v < farW
    · have h9 := h5 hf
      split at h4
      · right; omega
      · rw [h4] at h9; omega
    · left
      split at hle
      · unfold farW at *; omega
      · omega
  refine ⟨?_, hnear, fun k hk hf => ?_⟩
  · have h1 := h.le a ha
    unfold firstW at h1
    rw [if_pos rfl] at h1
    rcases hnear a ha with h2 | h2
    · unfold farW at h2; omega
    · omega
  · have hm : ((k : Int) + 1) ∈ fwdL R.length := List.mem_map.2 ⟨k, List.mem_range.2 hk, rfl⟩
    have h1 := h.sat _ hm
    rw [arcR_fr, arcR_to, arcR_ln] at h1
    unfold stFr stTo stLn at h1
    rw [if_neg (by omega), if_neg (by omega), if_neg (by omega), show stepNo ((k : Int) + 1) = k by unfold stepNo; omega, rdK_at hk] at h1
    exact h1 hf
end Go.Proofs.Ytbejgbflipoboaa
/- Plain words of roads: the reference's cheapest flow, with fuel; it is the program's. No program in sight. -/
namespace Go.Proofs.Ytbejgbflipoboaa
open Go.RowKit

/-- the first node that has too much -/
def srcOf (l : List Int) : Nat := l.findIdx fun v => decide (0 < v)
theorem srcOf_le (l : List Int) : srcOf l ≤ l.length := List.findIdx_le_length
theorem srcOf_pos {l : List Int} (h : srcOf l < l.length) : 0 < gi l (srcOf l) := by
  have := List.findIdx_getElem (xs := l) (p := fun v => decide (0 < v)) (w := h)
  rw [gi_at h]
  exact of_decide_eq_true this
theorem srcOf_before {l : List Int} {j : Nat} (h : j < srcOf l) : gi l j ≤ 0 := by
  have h1 := srcOf_le l
  have := List.not_of_lt_findIdx (xs := l) (p := fun v => decide (0 < v)) h
  rw [gi_at (by omega)]
  simpa using this
theorem srcOf_eq {l : List Int} {k : Nat} (hk : k ≤ l.length) (h1 : ∀ j, j < k → gi l j ≤ 0) (h2 : k = l.length ∨ 0 < gi l k) : srcOf l = k := by
  rcases Nat.lt_trichotomy (srcOf l) k with h | h | h
  · have := srcOf_pos (l := l) (by omega)
    have := h1 _ h
    omega
  · exact h
  · have := srcOf_before h
    have := srcOf_le l
    omega
def bestW (l at_ : List Int) : Nat → Int
  | 0 => -1
  | k + 1 => if gi l k < 0 ∧ gi at_ k < 1000000 ∧ (bestW l at_ k < 0 ∨ gi at_ k < gi at_ (bestW l at_ k).toNat) then (k : Int) else bestW l at_ k
theorem bestW_bd (l at_ : List Int) : ∀ k, -1 ≤ bestW l at_ k ∧ bestW l at_ k < k
  | 0 => by simp [bestW]
  | k + 1 => by
    have ih := bestW_bd l at_ k
    simp only [bestW]
    split <;> omega
theorem bestW_no {l a : List Int} : ∀ {k : Nat}, bestW l a k < 0 → ∀ v, v < k → gi l v < 0 → ¬ gi a v < farW
  | 0, _, v, hv, _ => by omega
  | k + 1, h, v, hv, h1 => by
    simp only [bestW] at h
    by_cases hc : gi l k < 0 ∧ gi a k < 1000000 ∧ (bestW l a k < 0 ∨ gi a k < gi a (bestW l a k).toNat)
    · rw [if_pos hc] at h; omega
    · rw [if_neg hc] at h
      rcases Nat.lt_succ_iff_lt_or_eq.1 hv with hv | rfl
      · exact bestW_no h v hv h1
      · exact fun h2 => hc ⟨h1, h2, .inl h⟩
theorem bestW_yes {l a : List Int} : ∀ {k : Nat}, ¬ bestW l a k < 0 → (bestW l a k).toNat < k ∧ gi l (bestW l a k).toNat < 0 ∧ gi a (bestW l a k).toNat < farW
  | 0, h => absurd (by simp [bestW]) h
  | k + 1, h => by
    simp only [bestW] at h ⊢
    by_cases hc : gi l k < 0 ∧ gi a k < 1000000 ∧ (bestW l a k < 0 ∨ gi a k < gi a (bestW l a k).toNat)
    · rw [if_pos hc]; exact ⟨by omega, hc.1, hc.2.1⟩
    · rw [if_neg hc] at h ⊢
      obtain ⟨h1, h2, h3⟩ := bestW_yes h
      exact ⟨by omega, h2, h3⟩
/-- the chain back to the node a -/
def chainW (R : List Road) (L by_ : List Int) (a : Nat) : Nat → Nat → List Int → Option (List Int)
  | 0, _, _ => none
  | F + 1, v, f => if v = a then some f else if gi by_ v < 0 then none else chainW R L by_ a F (stFr R (gi L (gi by_ v).toNat)).toNat (addAt f (stepNo (gi L (gi by_ v).toNat)) (sg (gi L (gi by_ v).toNat)))
def chpF (N : Nat) (R : List Road) : Nat → List Int → List Int → Option (Option (List Int))
  | 0, _, _ => none
  | F + 1, f, l =>
    if srcOf l = N then some (some f) else
      if bestW l (waysR N R (stepsTo R f R.length) (srcOf l)).at_ N < 0 then some none else
        match chainW R (stepsTo R f R.length) (waysR N R (stepsTo R f R.length) (srcOf l)).by_ (srcOf l) 20 (bestW l (waysR N R (stepsTo R f R.length) (srcOf l)).at_ N).toNat f with
        | none => none
        | some f' => chpF N R F f' (addAt (addAt l (srcOf l) (-1)) (bestW l (waysR N R (stepsTo R f R.length) (srcOf l)).at_ N).toNat 1)
theorem chainW_step {R : List Road} {L by_ : List Int} {a F v : Nat} {f g : List Int} (h : chainW R L by_ a F v f = some g) :
    ∃ F', F = F' + 1 ∧ ((v = a ∧ g = f) ∨ (v ≠ a ∧ 0 ≤ gi by_ v ∧ chainW R L by_ a F' (stFr R (gi L (gi by_ v).toNat)).toNat (addAt f (stepNo (gi L (gi by_ v).toNat)) (sg (gi L (gi by_ v).toNat))) = some g)) := by
  cases F with
  | zero => simp [chainW] at h
  | succ F' =>
    refine ⟨F', rfl, ?_⟩
    rw [chainW] at h
    by_cases hv : v = a
    · rw [if_pos hv] at h; exact .inl ⟨hv, (Option.some.inj h).symm⟩
    · rw [if_neg hv] at h
      by_cases h0 : gi by_ v < 0
      · rw [if_pos h0] at h; simp at h
      · rw [if_neg h0] at h; exact .inr ⟨hv, by omega, h⟩
theorem chp_step {N : Nat} {R : List Road} {F : Nat} {f l : List Int} {r : Option (List Int)} (h : chpF N R F f l = some r) :
    ∃ F', F = F' + 1 ∧ ((srcOf l = N ∧ r = some f) ∨ (srcOf l ≠ N ∧ bestW l (waysR N R (stepsTo R f R.length) (srcOf l)).at_ N < 0 ∧ r = none) ∨
      (srcOf l ≠ N ∧ ¬ bestW l (waysR N R (stepsTo R f R.length) (srcOf l)).at_ N < 0 ∧ ∃ f', chainW R (stepsTo R f R.length) (waysR N R (stepsTo R f R.length) (srcOf l)).by_ (srcOf l) 20 (bestW l (waysR N R (stepsTo R f R.length) (srcOf l)).at_ N).toNat f = some f' ∧
        chpF N R F' f' (addAt (addAt l (srcOf l) (-1)) (bestW l (waysR N R (stepsTo R f R.length) (srcOf l)).at_ N).toNat 1) = some r)) := by
  cases F with
  | zero => simp [chpF] at h
  | succ F' =>
    refine ⟨F', rfl, ?_⟩
    rw [chpF] at h
    by_cases hs : srcOf l = N
    · rw [if_pos hs] at h; exact .inl ⟨hs, (Option.some.inj h).symm⟩
    · rw [if_neg hs] at h
      by_cases hb : bestW l (waysR N R (stepsTo R f R.length) (srcOf l)).at_ N < 0
      · rw [if_pos hb] at h; exact .inr (.inl ⟨hs, hb, (Option.some.inj h).symm⟩)
      · rw [if_neg hb] at h
        generalize hc : chainW R (stepsTo R f R.length) (waysR N R (stepsTo R f R.length) (srcOf l)).by_ (srcOf l) 20 (bestW l (waysR N R (stepsTo R f R.length) (srcOf l)).at_ N).toNat f = o at h
        cases o with
        | none => simp at h
        | some f' => exact .inr (.inr ⟨hs, hb, f', rfl, h⟩)
/-! the search for the nearest node -/
theorem bestW_no1 {l a : List Int} {k : Nat} (h : ¬ gi l k < 0) : bestW l a (k + 1) = bestW l a k := by
  rw [bestW, if_neg (fun c => h c.1)]
theorem bestW_no2 {l a : List Int} {k : Nat} (h : ¬ gi a k < 1000000) : bestW l a (k + 1) = bestW l a k := by
  rw [bestW, if_neg (fun c => h c.2.1)]
theorem bestW_yes1 {l a : List Int} {k : Nat} (h1 : gi l k < 0) (h2 : gi a k < 1000000) (h3 : bestW l a k < 0) : bestW l a (k + 1) = k := by
  rw [bestW, if_pos ⟨h1, h2, .inl h3⟩]
theorem bestW_yes2 {l a : List Int} {k p : Nat} (h1 : gi l k < 0) (h2 : gi a k < 1000000) (h3 : bestW l a k = p) (h4 : gi a k < gi a p) : bestW l a (k + 1) = k := by
  rw [bestW, if_pos ⟨h1, h2, .inr (by rw [h3, Int.toNat_natCast]; exact h4)⟩]
theorem bestW_no3 {l a : List Int} {k p : Nat} (h3 : bestW l a k = p) (h4 : ¬ gi a k < gi a p) : bestW l a (k + 1) = bestW l a k := by
  rw [bestW, if_neg]
  rintro ⟨_, _, c | c⟩
  · omega
  · rw [h3, Int.toNat_natCast] at c; exact h4 c
theorem turn_sg {f : List Int} {s : Int} (h : stepNo s < f.length) : gi (addAt f (stepNo s) (sg s)) = turnG (gi f) s := by
  funext k
  unfold turnG
  rw [gi_addAt h]
  show _ = upd (gi f) (stepNo s) (gi f (stepNo s) + sg s) k
  simp only [upd]
  by_cases e : k = stepNo s
  · subst e; simp
  · rw [if_neg (fun h => e h.symm), if_neg e]; omega
theorem chainW_view {R : List Road} {L : List Int} {st : WS} {a : Nat} : ∀ {F v : Nat} {c : List Int} {f : List Int}, Chn (netR R).arcs (viewB L st) v c a → c.length < F → (∀ s ∈ c, stepNo s < f.length) →
    (v :: nodesOf (netR R).arcs c).Nodup → ∃ f', chainW R L st.by_ a F v f = some f' ∧ f'.length = f.length ∧ gi f' = turnsG (gi f) c
  | 0, _, _, _, _, h, _, _ => by omega
  | F + 1, v, c, f, hc, hl, hs, hn => by
    cases hc with
    | nil h => exact ⟨f, by rw [chainW, if_pos rfl], rfl, rfl⟩
    | @cons _ s l _ h h2 =>
      have hv : v ≠ a := fun e => by
        subst e
        have ha : v ∈ (netR R).arcs.fr s :: nodesOf (netR R).arcs l := by
          have key : ∀ {w l}, Chn (netR R).arcs (viewB L st) w l v → v ∈ w :: nodesOf (netR R).arcs l := by
            intro w l hc
            have : ∀ {w l r}, Chn (netR R).arcs (viewB L st) w l r → r ∈ w :: nodesOf (netR R).arcs l := by
              intro w l r hc
              induction hc with
              | nil _ => exact List.mem_cons_self
              | @cons w s l r _ _ ih => exact List.mem_cons_of_mem _ (by simpa [nodesOf] using ih)
            exact this hc
          exact key h2
        exact (List.nodup_cons.1 hn).1 (by simpa [nodesOf] using ha)
      unfold viewB at h
      split at h
      · rename_i hb
        have e : gi L (gi st.by_ v).toNat = s := by unfold gi at h ⊢; rw [h]; rfl
        rw [chainW, if_neg hv, if_neg (by omega), e, ← arcR_fr]
        have hs1 := hs s List.mem_cons_self
        obtain ⟨f', a1, a2, a3⟩ := chainW_view (F := F) (f := addAt f (stepNo s) (sg s)) h2 (by simp at hl; omega) (fun t ht => by rw [addAt_length]; exact hs t (List.mem_cons_of_mem _ ht)) (by
          have := (List.nodup_cons.1 hn).2
          simpa [nodesOf] using this)
        refine ⟨f', a1, by rw [a2, addAt_length], ?_⟩
        rw [a3, turn_sg hs1]
        rfl
      · simp at h
theorem chp_ends {M : Nat} {R : List Road} (hok : NetOk (M : Int) R) {x : Nat → Int} (hx : sumN x M = 0) : ∀ (F : Nat) (f l : List Int), f.length = R.length → l.length = M → ShipInv (netR R) M x (gi f) (gi l) → over (gi l) M < F →
    (∃ f', chpF M R F f l = some (some f') ∧ f'.length = R.length ∧ ShipInv (netR R) M x (gi f') (fun _ => 0)) ∨ (chpF M R F f l = some none ∧ ∃ S, (netR R).Dam M x S)
  | 0, f, l, _, _, _, h => by have := over_nonneg (gi l) M; omega
  | F + 1, f, l, hf, hl, hI, ho => by
    have hM := hok.n1
    have h12 := hok.r12
    have hG := netR_fine hok
    have hS := stepsR R f
    obtain ⟨p, hp⟩ := hI.pot
    rw [chpF]
    by_cases hs : srcOf l = M
    · rw [if_pos hs]
      left
      refine ⟨f, rfl, hf, hI.fs, fun v hv => ?_, hI.pot⟩
      have h0 : ∀ v, v < M → gi l v = 0 := left_zero (fun v hv => srcOf_before (by omega)) (by
        have h5 := out_sum hG (gi f)
        rw [← sumN_congr (f := fun v => (netR R).out (gi f) v + gi l v) (g := x) (fun v hv => hI.out v hv), sumN_add, h5] at hx
        omega)
      have := hI.out v hv
      rw [h0 v hv] at this
      omega
    · rw [if_neg hs]
      have hsl := srcOf_le l
      have hsp := srcOf_pos (l := l) (by omega)
      have hE := ways_end hok (stepsTo_in R f R.length) (by have := stepsTo_length R f R.length; omega) (show srcOf l < M by omega) (pot_of hS hp)
      have hfirst : ∀ v, v < M → firstW (srcOf l) v = farW ∨ (firstW (srcOf l) v = 0 ∧ 0 < gi l v) := fun v hv => by
        unfold firstW
        by_cases h : v = srcOf l
        · rw [if_pos h]; right; subst h; exact ⟨rfl, hsp⟩
        · rw [if_neg h]; exact .inl rfl
      by_cases hb : bestW l (waysR M R (stepsTo R f R.length) (srcOf l)).at_ M < 0
      · rw [if_pos hb]
        right
        exact ⟨rfl, _, ship_stuck hG hI hS hE (K := 99) (by omega) (stepsR_ln hok f) (by unfold farW; omega) hfirst (bestW_no hb) (show srcOf l < M by omega) (by unfold firstW; rw [if_pos rfl])⟩
      · rw [if_neg hb]
        obtain ⟨b1, b2, b3⟩ := bestW_yes hb
        generalize (bestW l (waysR M R (stepsTo R f R.length) (srcOf l)).at_ M).toNat = best at *
        obtain ⟨c, r, hc, hr, hlr, hcl, hI2⟩ := ship_more hG hI hS (pot_of hS hp) hE (K := 99) (by omega) (stepsR_ln hok f) (by unfold farW; omega) hfirst b1 b3
        have htl := hE.tele (steps_in hG hS) b1 hc
        have hra : r = srcOf l := by
          have h1 := htl.2.2.2.2 b3
          have h2 := htl.2.2.2.1
          unfold firstW at h2
          refine Classical.byContradiction fun hn => ?_
          rw [if_neg hn] at h2
          omega
        subst hra
        have hcin : ∀ s ∈ c, stepNo s < f.length := fun s hs => by
          have := htl.2.2.1 s hs
          have := stepNo_lt (stepsTo_in R f R.length s this)
          omega
        obtain ⟨f', e1, e2, e3⟩ := chainW_view (F := 20) (f := f) hc (by omega) hcin hc.nodup
        rw [e1]
        have hl2 : gi (addAt (addAt l (srcOf l) (-1)) best 1) = fun v => gi l v + one best v - one (srcOf l) v := funext fun v => by
          rw [gi_addAt (by rw [addAt_length]; omega), gi_addAt (by omega)]
          unfold one
          split <;> split <;> omega
        refine chp_ends hok hx F f' (addAt (addAt l (srcOf l) (-1)) best 1) (by omega) (by rw [addAt_length, addAt_length]; exact hl) (by rw [e3, hl2]; exact hI2) ?_
        rw [hl2, over_step b2 hlr (by omega)]
        omega
/-- the reference's cheapest flow -/
def chpV (M : Nat) (R : List Road) (x : List Int) : Option (List Int) := (chpF M R 1000 (List.replicate R.length 0) x).getD none
theorem chp_ok {M : Nat} {R : List Road} {x : List Int} (he : excErr (M : Int) R x = 0) : chpF M R 1000 (List.replicate R.length 0) x = some (chpV M R x) ∧
    ((okF (M : Int) R x = true ∧ ∃ f, chpV M R x = some f ∧ FlowR M R x f ∧ costTo R f R.length = lstF (M : Int) R x ∧ ∃ p, (netR R).arcs.Pot (stepsTo R f R.length) p) ∨ (okF (M : Int) R x = false ∧ chpV M R x = none)) := by
  obtain ⟨h1, h2, h3, h4⟩ := excErr_ok he
  have hok := netErr_ok h1
  have hM := hok.n1
  have h0 : ShipInv (netR R) M (gi x) (gi (List.replicate R.length 0)) (gi x) := by
    rw [gi_rep0]
    exact ship_zero _ (fun k hk => by have := hok.wd k hk; simp only [netR, rdK_at hk]; omega) (fun k hk => by have := hok.ln k hk; simp only [netR, rdK_at hk]; omega)
  have hx : sumN (gi x) M = 0 := by rw [← sumR_N, show M = x.length by omega]; exact h4
  rcases chp_ends hok hx 1000 (List.replicate R.length 0) x (by simp) (by omega) h0 (by have := over_bd (x := x) (M := M) (by omega) (fun v hv => (h3 v (by omega)).2); omega) with ⟨f, e, hfl, hI⟩ | ⟨e, S, hd⟩
  · have e2 : chpV M R x = some f := by unfold chpV; rw [e]; rfl
    have hF : FlowR M R x f := ⟨hfl, hI.fs, fun v hv => by have := hI.out v hv; omega⟩
    refine ⟨by rw [e2, e], .inl ⟨(okF_iff he).2 ⟨f, hF⟩, f, e2, hF, ?_, ?_⟩⟩
    · obtain ⟨p, hp⟩ := hI.pot
      obtain ⟨M', e3, _, _, _, _, _, k7, k8, k9⟩ := okF_flow ((okF_iff he).2 ⟨f, hF⟩)
      obtain rfl : M = M' := by omega
      have a1 := lstF_le he hF
      have a2 := least_cheap hok (pot_of (stepsR R f) hp) hF k7
      omega
    · obtain ⟨p, hp⟩ := hI.pot
      exact ⟨p, pot_of (stepsR R f) hp⟩
  · have e2 : chpV M R x = none := by unfold chpV; rw [e]; rfl
    refine ⟨by rw [e2, e], .inr ⟨?_, e2⟩⟩
    cases hb : okF (M : Int) R x with
    | false => rfl
    | true =>
      obtain ⟨g, hg⟩ := (okF_iff he).1 hb
      exact (dam_no hok hd hg).elim
end Go.Proofs.Ytbejgbflipoboaa
/- Plain words of roads: the program's distances (a map), and what they say of costs. No program in sight. -/
namespace Go.Proofs.Ytbejgbflipoboaa
open Go.RowKit

/-- labels as a map: what is far is not in it -/
def mapOf (l : List Int) : Int → Option Int := fun x => if 0 ≤ x ∧ x.toNat < l.length ∧ gi l x.toNat ≠ farW then some (gi l x.toNat) else none
theorem mapOf_at {l : List Int} {u : Nat} (h : u < l.length) : mapOf l (u : Int) = if gi l u = farW then none else some (gi l u) := by
  unfold mapOf
  rw [Int.toNat_natCast]
  by_cases e : gi l u = farW
  · rw [if_pos e, if_neg (fun h => h.2.2 e)]
  · rw [if_neg e, if_pos ⟨by omega, h, e⟩]
theorem mapOf_set {l : List Int} {t : Nat} {v : Int} (h : t < l.length) (hv : v ≠ farW) (x : Int) : mapOf (l.set t v) x = updO (mapOf l) t v x := by
  unfold updO
  by_cases e : x = t
  · subst e
    rw [if_pos rfl, mapOf_at (by simpa using h), gi_set _ _ _ _ h, if_pos rfl, if_neg hv]
  · rw [if_neg e]
    unfold mapOf
    by_cases h0 : 0 ≤ x
    · have : t ≠ x.toNat := by omega
      rw [gi_set _ _ _ _ h, if_neg this, List.length_set]
    · rw [if_neg (fun h => h0 h.1), if_neg (fun h => h0 h.1)]
theorem mapOf_start {N a : Nat} (h : a < N) (x : Int) : mapOf (startW N a).at_ x = updO (fun _ => none) a 0 x := by
  unfold startW
  rw [mapOf_set (by simpa using h) (by unfold farW; omega)]
  unfold updO
  split
  · rfl
  · unfold mapOf
    rw [if_neg]
    rintro ⟨_, h2, h3⟩
    rw [List.length_replicate] at h2
    exact h3 (by unfold gi; rw [List.getElem?_replicate, if_pos h2]; rfl)
/-- labels while the roads are gone through -/
structure FwOk (M c : Nat) (l : List Int) : Prop where
  la : l.length = M
  nr : ∀ i, i < M → gi l i = farW ∨ (0 ≤ gi l i ∧ gi l i ≤ (c : Int) * 99)
theorem FwOk.mono {M c c' : Nat} {l : List Int} (h : FwOk M c l) (hc : c ≤ c') : FwOk M c' l := ⟨h.la, fun i hi => by have := h.nr i hi; omega⟩
theorem fwd_at {n q : Nat} (h : q < n) : gi (fwdL n) q = (q : Int) + 1 := by
  rw [gi_at (by simpa [fwdL] using h)]; simp [fwdL]
theorem fwd_length (n : Nat) : (fwdL n).length = n := by simp [fwdL]
theorem fwd_ends {R : List Road} {q : Nat} (h : q < R.length) : stFr R (gi (fwdL R.length) q) = R[q].fr ∧ stTo R (gi (fwdL R.length) q) = R[q].to ∧ stLn R (gi (fwdL R.length) q) = R[q].ln := by
  rw [fwd_at h]
  unfold stFr stTo stLn
  rw [if_neg (by omega), if_neg (by omega), if_neg (by omega), show stepNo ((q : Int) + 1) = q by unfold stepNo; omega, rdK_at h]
  exact ⟨rfl, rfl, rfl⟩
/-- one road, told for the map -/
theorem fwd_no1 {R : List Road} {st : WS} {q : Nat} (h : q < R.length) (h1 : gi st.at_ R[q].fr.toNat = farW) : relaxW R (fwdL R.length) st q = st := by
  obtain ⟨e1, e2, e3⟩ := fwd_ends h
  exact relaxW_far (by rw [e1, h1]; omega)
where relaxW_far {L : List Int} {i : Nat} (h : ¬ gi st.at_ (stFr R (gi L i)).toNat < farW) : relaxW R L st i = st := by unfold relaxW; rw [if_neg (fun h2 => h h2.1)]
theorem fwd_no2 {R : List Road} {st : WS} {q : Nat} (h : q < R.length) (h2 : ¬ gi st.at_ R[q].fr.toNat + R[q].ln < gi st.at_ R[q].to.toNat) : relaxW R (fwdL R.length) st q = st := by
  obtain ⟨e1, e2, e3⟩ := fwd_ends h
  unfold relaxW
  rw [e1, e2, e3, if_neg (fun h3 => h2 h3.2)]
theorem fwd_yes {R : List Road} {st : WS} {q : Nat} (h : q < R.length) (h1 : gi st.at_ R[q].fr.toNat < farW) (h2 : gi st.at_ R[q].fr.toNat + R[q].ln < gi st.at_ R[q].to.toNat) : (relaxW R (fwdL R.length) st q).at_ = st.at_.set R[q].to.toNat (gi st.at_ R[q].fr.toNat + R[q].ln) := by
  obtain ⟨e1, e2, e3⟩ := fwd_ends h
  unfold relaxW
  rw [e1, e2, e3, if_pos ⟨h1, h2⟩]
theorem fwd_relax {M c : Nat} {R : List Road} {st : WS} {q : Nat} (hok : NetOk (M : Int) R) (h : q < R.length) (hk : FwOk M c st.at_) : FwOk M (c + 1) (relaxW R (fwdL R.length) st q).at_ := by
  by_cases h1 : gi st.at_ R[q].fr.toNat < farW
  · by_cases h2 : gi st.at_ R[q].fr.toNat + R[q].ln < gi st.at_ R[q].to.toNat
    · rw [fwd_yes h h1 h2]
      have hf := hok.fr q h
      have ht := hok.to q h
      have hl := hok.ln q h
      have h3 := hk.nr R[q].fr.toNat (by omega)
      refine ⟨by rw [List.length_set]; exact hk.la, fun i hi => ?_⟩
      rw [gi_set _ _ _ _ (by rw [hk.la]; omega)]
      have := hk.nr i hi
      split <;> omega
    · rw [fwd_no2 h h2]; exact hk.mono (by omega)
  · have hf := hok.fr q h
    have h3 := hk.nr R[q].fr.toNat (by omega)
    obtain ⟨e1, _, _⟩ := fwd_ends h
    unfold relaxW
    rw [e1, if_neg (fun h2 => h1 h2.1)]
    exact hk.mono (by omega)
theorem fwd_in {M c : Nat} {R : List Road} {st : WS} (hok : NetOk (M : Int) R) (hk : FwOk M c st.at_) : ∀ q, q ≤ R.length → FwOk M (c + q) (inW R (fwdL R.length) st q).at_
  | 0, _ => hk
  | q + 1, h => fwd_relax hok (by omega) (fwd_in hok hk q (by omega))
theorem fwd_ways {M : Nat} {R : List Road} {st : WS} (hok : NetOk (M : Int) R) (hk : FwOk M 0 st.at_) : ∀ j, FwOk M (j * 12) (waysTo R (fwdL R.length) st j).at_
  | 0 => by rw [Nat.zero_mul]; exact hk
  | j + 1 => by
    have h12 := hok.r12
    have := fwd_in hok (fwd_ways hok hk j) R.length (Nat.le_refl _)
    show FwOk M _ (inW R (fwdL R.length) _ (fwdL R.length).length).at_
    rw [fwd_length]
    exact this.mono (by omega)
theorem fwd_start {M a : Nat} (ha : a < M) : FwOk M 0 (startW M a).at_ := by
  refine ⟨by simp [startW], fun i hi => ?_⟩
  simp only [startW]
  rw [gi_set _ _ _ _ (by simpa using ha)]
  have : gi (List.replicate M farW) i = farW := by unfold gi; rw [List.getElem?_replicate, if_pos hi]; rfl
  rw [this]
  split
  · right; omega
  · left; rfl
/-- what is told of a label -/
theorem unfar_map {l : List Int} {i : Nat} (h : i < l.length) : unfar (gi l i) = match mapOf l (i : Int) with | some d => d | none => -1 := by
  rw [mapOf_at h]
  unfold unfar
  split <;> rfl
theorem distL_length {M a : Nat} {R : List Road} : (distL M R a).length = (distW M R a).length := by simp [distL]
theorem ways_len {R : List Road} {L : List Int} {st : WS} : ∀ n, (waysTo R L st n).at_.length = st.at_.length := by
  have h1 : ∀ (st : WS) i, (relaxW R L st i).at_.length = st.at_.length := fun st i => by unfold relaxW; split <;> simp
  have h2 : ∀ (st : WS) q, (inW R L st q).at_.length = st.at_.length := fun st q => by
    induction q with
    | zero => rfl
    | succ q ih => rw [inW, h1, ih]
  intro n
  induction n with
  | zero => rfl
  | succ n ih => rw [waysTo, h2, ih]
theorem distW_length {M a : Nat} {R : List Road} : (distW M R a).length = M := by
  unfold distW waysR; rw [ways_len]; simp [startW]
theorem distL_at {M a i : Nat} {R : List Road} (h : i < M) : gi (distL M R a) i = unfar (gi (distW M R a) i) := by
  rw [gi_at (by rw [distL_length, distW_length]; exact h), gi_at (by rw [distW_length]; exact h)]
  simp [distL]
/-! what the distances say of costs -/
theorem sat_chain {M : Nat} {R : List Road} (hok : NetOk (M : Int) R) {d : Nat → Int} (hs : (netR R).arcs.Sat farW (fwdL R.length) d) (hd : ∀ v, v < M → d v = farW ∨ (0 ≤ d v ∧ d v ≤ 495)) {b : Nat → Option Int} (hb : ∀ v, v < M → ∀ s, b v = some s → s ∈ fwdL R.length ∧ (netR R).arcs.to s = v) {k v : Nat} {l : List Int} (hc : Chn (netR R).arcs b k l v) :
    k < M → d v < farW → d k < farW ∧ d k ≤ d v + sumLn (netR R).arcs l := by
  induction hc with
  | nil _ => intro _ h; simp only [sumLn]; omega
  | @cons k s l v h1 h2 ih =>
    intro hk hv
    obtain ⟨e1, e2⟩ := hb k hk s h1
    have hin := in_fwd hok s e1
    obtain ⟨i1, i2⟩ := ih hin.1 hv
    have h3 := hs s e1 i1
    have h4 := ln_fwd hok s e1
    rw [e2] at h3
    have h5 := hd _ hin.1
    have h6 := hd k hk
    simp only [sumLn]
    unfold farW at *
    constructor <;> omega
/-- from a road's beginning, nothing is farther than from its end and along it -/
theorem dist_tri {M : Nat} {R : List Road} (hok : NetOk (M : Int) R) {q k : Nat} (hq : q < R.length) (hk : k < M) : gi (distW M R R[q].fr.toNat) k ≤ R[q].ln + gi (distW M R R[q].to.toNat) k := by
  have hf := hok.fr q hq
  have ht := hok.to q hq
  have hl := hok.ln q hq
  have hu : R[q].fr.toNat < M := by omega
  have hv : R[q].to.toNat < M := by omega
  have du := dist_ok hok hu
  have dv := dist_ok hok hv
  have eu := dist_end hok hu
  have ev := dist_end hok hv
  have hin := in_fwd hok
  rcases dv.near k hk with h1 | h1
  · rcases du.near k hk with h2 | h2
    · omega
    · unfold farW at *; omega
  · obtain ⟨l, r, hc⟩ := ev.ends k hk
    obtain ⟨t1, t2, t3, t4, t5⟩ := ev.tele hin hk hc
    have hlt : gi (distW M R R[q].to.toNat) k < farW := by unfold farW; omega
    have h6 := t5 hlt
    have h7 : r = R[q].to.toNat := by
      refine Classical.byContradiction fun hn => ?_
      have : firstW R[q].to.toNat r = farW := by unfold firstW; rw [if_neg hn]
      omega
    subst h7
    have h8 := du.road q hq (by rw [du.zero]; unfold farW; omega)
    rw [du.zero] at h8
    have h9 := du.near R[q].to.toNat hv
    have h10 := sat_chain hok eu.sat du.near (fun v hv s hs => by
      obtain ⟨a1, a2, _⟩ := ev.edge v hv s hs
      exact ⟨a1, a2⟩) hc hk (by unfold farW at *; omega)
    unfold firstW at t4
    rw [if_pos rfl] at t4
    omega
/-- how far the next node is that lacks some, of the first k -/
def nearD (M : Nat) (R : List Road) (x : List Int) (v : Nat) : Nat → Int
  | 0 => farW
  | k + 1 => if gi x k < 0 ∧ gi (distW M R v) k < nearD M R x v k then gi (distW M R v) k else nearD M R x v k
theorem nearD_le {M : Nat} {R : List Road} {x : List Int} {v : Nat} : ∀ {n k : Nat}, k < n → gi x k < 0 → nearD M R x v n ≤ gi (distW M R v) k
  | n + 1, k, h, hx => by
    simp only [nearD]
    rcases Nat.lt_succ_iff_lt_or_eq.1 h with h | rfl
    · have := nearD_le (M := M) (R := R) (v := v) h hx
      split <;> omega
    · split
      · omega
      · rename_i hn
        have : ¬ gi (distW M R v) k < nearD M R x v k := fun h2 => hn ⟨hx, h2⟩
        omega
theorem nearD_at {M : Nat} {R : List Road} {x : List Int} {v : Nat} : ∀ n, nearD M R x v n = farW ∨ ∃ k, k < n ∧ gi x k < 0 ∧ nearD M R x v n = gi (distW M R v) k
  | 0 => .inl rfl
  | n + 1 => by
    simp only [nearD]
    split
    · rename_i h; exact .inr ⟨n, by omega, h.1, rfl⟩
    · rcases nearD_at (M := M) (R := R) (x := x) (v := v) n with h | ⟨k, h1, h2, h3⟩
      · exact .inl h
      · exact .inr ⟨k, by omega, h2, h3⟩
theorem nearD_le_far {M : Nat} {R : List Road} {x : List Int} {v : Nat} : ∀ n, nearD M R x v n ≤ farW
  | 0 => Int.le_refl _
  | n + 1 => by
    have := nearD_le_far (M := M) (R := R) (x := x) (v := v) n
    simp only [nearD]
    split <;> omega
theorem nearD_tri {M : Nat} {R : List Road} (hok : NetOk (M : Int) R) {x : List Int} {q : Nat} (hq : q < R.length) : nearD M R x R[q].fr.toNat M ≤ R[q].ln + nearD M R x R[q].to.toNat M := by
  have hl := hok.ln q hq
  rcases nearD_at (M := M) (R := R) (x := x) (v := R[q].to.toNat) M with h | ⟨k, h1, h2, h3⟩
  · rw [h]
    have := nearD_le_far (M := M) (R := R) (x := x) (v := R[q].fr.toNat) M
    omega
  · rw [h3]
    have h4 := dist_tri hok hq h1
    have h5 := nearD_le (M := M) (R := R) (v := R[q].fr.toNat) h1 h2
    omega
theorem nearD_bd {M : Nat} {R : List Road} (hok : NetOk (M : Int) R) {x : List Int} {v : Nat} (hv : v < M) : nearD M R x v M = farW ∨ (0 ≤ nearD M R x v M ∧ nearD M R x v M ≤ 495) := by
  rcases nearD_at (M := M) (R := R) (x := x) (v := v) M with h | ⟨k, h1, h2, h3⟩
  · exact .inl h
  · rw [h3]; exact (dist_ok hok hv).near k h1
/-- what the distances allow, of the first k nodes -/
def boundD (M : Nat) (R : List Road) (x : List Int) : Nat → Int
  | 0 => 0
  | k + 1 => if gi x k ≤ 0 then boundD M R x k else boundD M R x k + nearD M R x k M * gi x k
theorem boundD_sum {M : Nat} {R : List Road} (hok : NetOk (M : Int) R) {x : List Int} : ∀ k, k ≤ M → boundD M R x k = sumN (fun v => nearD M R x v M * gi x v) k
  | 0, _ => rfl
  | k + 1, hk => by
    simp only [boundD, sumN]
    rw [boundD_sum hok k (by omega)]
    by_cases h : gi x k ≤ 0
    · rw [if_pos h]
      rcases Int.lt_or_eq_of_le h with h | h
      · have h1 := nearD_le (M := M) (R := R) (v := k) (show k < M by omega) h
        have h2 := (dist_ok hok (show k < M by omega)).zero
        have h3 := nearD_bd hok (x := x) (show k < M by omega)
        have : nearD M R x k M = 0 := by unfold farW at *; omega
        rw [this]; omega
      · rw [h]; omega
    · rw [if_neg h]
theorem narrow {M : Nat} {R : List Road} (hok : NetOk (M : Int) R) {x f : List Int} (hf : FlowR M R x f) : boundD M R x M ≤ costTo R f R.length := by
  rw [boundD_sum hok M (Nat.le_refl _)]
  have h1 := sum_out (netR_fine hok) (fun v => nearD M R x v M) (gi f)
  rw [sumN_congr (g := fun v => nearD M R x v M * (netR R).out (gi f) v) (fun v hv => by rw [hf.2.2 v hv]), h1, costR]
  show _ ≤ sumN (fun k => (netR R).ln k * gi f k) (netR R).K
  refine sumN_le fun k hk => ?_
  have h2 := nearD_tri hok (x := x) (q := k) hk
  have h3 := hf.2.1 k hk
  simp only [netR, rdK_at (show k < R.length from hk)] at h3 ⊢
  rw [Int.mul_comm]
  exact Int.mul_le_mul_of_nonneg_right (by omega) h3.1
/-- where there is a flow, each node that has too much reaches one that lacks some -/
theorem narrow_some {M : Nat} {R : List Road} (hok : NetOk (M : Int) R) {x f : List Int} (hf : FlowR M R x f) {i : Nat} (hi : i < M) (hx : 0 < gi x i) : nearD M R x i M ≠ farW := fun h => by
  have hd := dist_ok hok hi
  refine dam_no hok (S := fun v => decide (gi (distW M R i) v < farW)) ?_ hf
  have hcut : (netR R).cut (fun v => decide (gi (distW M R i) v < farW)) = 0 := by
    unfold NetG.cut
    rw [sumN_congr (g := fun _ => 0) (fun k hk => ?_), sumN_zero]
    have hk2 : k < R.length := hk
    have hf := hok.fr k hk2
    have ht := hok.to k hk2
    have hl := hok.ln k hk2
    have h1 := hd.road k hk2
    have h2 := hd.near R[k].to.toNat (by omega)
    have h3 := hd.near R[k].fr.toNat (by omega)
    simp only [netR, rdK_at hk2]
    rw [if_neg]
    simp only [Bool.and_eq_true, Bool.not_eq_true', decide_eq_true_eq, decide_eq_false_iff_not]
    rintro ⟨a, b⟩
    have := h1 a
    unfold farW at *
    omega
  unfold NetG.Dam
  rw [hcut]
  have h4 := sumN_term (f := fun v => if decide (gi (distW M R i) v < farW) then gi x v else 0) (n := M) (fun v hv => by
    by_cases hc : gi (distW M R i) v < farW
    · rw [if_pos (by simpa using hc)]
      refine Classical.byContradiction fun hn => ?_
      have := nearD_le (M := M) (R := R) (v := i) hv (show gi x v < 0 by omega)
      omega
    · rw [if_neg (by simpa using hc)]; omega) hi
  rw [if_pos (by rw [decide_eq_true_eq, hd.zero]; unfold farW; omega)] at h4
  exact Int.lt_of_lt_of_le hx h4
/-- the search for the next node, as the statement makes it -/
def nearS (x l : List Int) : Nat → Int
  | 0 => -1
  | k + 1 => if gi x k < 0 ∧ 0 ≤ gi l k ∧ (nearS x l k < 0 ∨ gi l k < nearS x l k) then gi l k else nearS x l k
theorem nearS_eq {M : Nat} {R : List Road} (hok : NetOk (M : Int) R) {x : List Int} {v : Nat} (hv : v < M) : ∀ k, k ≤ M → nearS x (distL M R v) k = unfar (nearD M R x v k)
  | 0, _ => by simp [nearS, nearD, unfar]
  | k + 1, hk => by
    simp only [nearS, nearD]
    rw [nearS_eq hok hv k (by omega), distL_at (i := k) (by omega)]
    have h1 := (dist_ok hok hv).near k (by omega)
    have h2 : nearD M R x v k = farW ∨ (0 ≤ nearD M R x v k ∧ nearD M R x v k ≤ 495) := by
      rcases nearD_at (M := M) (R := R) (x := x) (v := v) k with h | ⟨j, a, b, c⟩
      · exact .inl h
      · rw [c]; exact (dist_ok hok hv).near j (by omega)
    have hu : ∀ C, C = farW ∨ (0 ≤ C ∧ C ≤ 495) → (C = farW ∧ unfar C = -1) ∨ (0 ≤ C ∧ C ≤ 495 ∧ unfar C = C) := fun C h => by
      unfold unfar farW at *
      rcases h with rfl | h
      · exact .inl ⟨rfl, if_pos rfl⟩
      · exact .inr ⟨h.1, h.2, if_neg (by omega)⟩
    have u1 := hu _ h1
    have u2 := hu _ h2
    generalize nearD M R x v k = A at *
    generalize gi (distW M R v) k = B at *
    unfold farW at *
    by_cases c : gi x k < 0 ∧ B < A
    · have hc : gi x k < 0 ∧ 0 ≤ unfar B ∧ (unfar A < 0 ∨ unfar B < unfar A) := by omega
      rw [if_pos c, if_pos hc]
    · have hc : ¬ (gi x k < 0 ∧ 0 ≤ unfar B ∧ (unfar A < 0 ∨ unfar B < unfar A)) := by omega
      rw [if_neg c, if_neg hc]
end Go.Proofs.Ytbejgbflipoboaa
/- Plain words of roads: prices that prove a flow. No program in sight. -/
namespace Go.Proofs.Ytbejgbflipoboaa
open Go.RowKit

/-- no step that the flow allows is cheaper than the prices make it -/
def potB (R : List Road) (f p : List Int) : Bool := (stepsTo R f R.length).all fun s => decide (0 ≤ stLn R s + gi p (stFr R s).toNat - gi p (stTo R s).toNat)
def prcB (N : Int) (p : List Int) : Bool := decide ((p.length : Int) = N) && p.all fun v => withinB v (-1000) 1000
def prcErr (N : Int) (R : List Road) (x f p : List Int) : Int :=
  if flowErr N R x f ≠ 0 then flowErr N R x f else if prcB N p then (if potB R f p then 0 else 7) else 1
theorem potB_iff (R : List Road) (f p : List Int) : potB R f p = true ↔ (netR R).arcs.Pot (stepsTo R f R.length) (gi p) := by
  unfold potB Arcs.Pot
  rw [List.all_eq_true]
  constructor
  · intro h s hs
    have := h s hs
    rw [decide_eq_true_eq] at this
    rw [arcR_fr, arcR_to, arcR_ln]; omega
  · intro h s hs
    have := h s hs
    rw [arcR_fr, arcR_to, arcR_ln] at this
    rw [decide_eq_true_eq]; omega
theorem prcB_iff {M : Nat} {p : List Int} : prcB (M : Int) p = true ↔ p.length = M ∧ ∀ v, v < M → -1000 ≤ gi p v ∧ gi p v ≤ 1000 := by
  unfold prcB
  rw [Bool.and_eq_true, decide_eq_true_eq, List.all_eq_true]
  constructor
  · rintro ⟨h1, h2⟩
    refine ⟨by omega, fun v hv => ?_⟩
    have := h2 (p[v]'(by omega)) (List.getElem_mem _)
    rw [gi_at (by omega)]
    simpa [withinB] using this
  · rintro ⟨h1, h2⟩
    refine ⟨by omega, fun y hy => ?_⟩
    obtain ⟨j, hj, rfl⟩ := List.getElem_of_mem hy
    have := h2 j (by omega)
    rw [gi_at hj] at this
    simpa [withinB] using this
theorem prcErr_ok {N : Int} {R : List Road} {x f p : List Int} (h : prcErr N R x f p = 0) : flowErr N R x f = 0 ∧ prcB N p = true ∧ potB R f p = true := by
  unfold prcErr at h
  by_cases h1 : flowErr N R x f = 0
  · rw [if_neg (by omega)] at h
    by_cases h2 : prcB N p = true
    · rw [if_pos h2] at h
      by_cases h3 : potB R f p = true
      · exact ⟨h1, h2, h3⟩
      · rw [if_neg h3] at h; omega
    · rw [if_neg h2] at h; omega
  · rw [if_pos h1] at h; exact absurd h h1
theorem prcErr_mk {N : Int} {R : List Road} {x f p : List Int} (h1 : flowErr N R x f = 0) (h2 : prcB N p = true) (h3 : potB R f p = true) : prcErr N R x f p = 0 := by
  unfold prcErr
  rw [if_neg (by omega), if_pos h2, if_pos h3]
theorem flow_exc0 {N : Int} {R : List Road} {x f : List Int} (h : flowErr N R x f = 0) : excErr N R x = 0 := by
  unfold flowErr at h
  by_cases h1 : excErr N R x = 0
  · exact h1
  · rw [if_pos h1] at h; exact absurd h h1
/-- a flow that is right -/
theorem flow_right {N : Int} {R : List Road} {x f : List Int} (h : flowErr N R x f = 0) : ∃ M : Nat, N = M ∧ x.length = M ∧ NetOk (M : Int) R ∧ excErr (M : Int) R x = 0 ∧ FlowR M R x f ∧ okF (M : Int) R x = true ∧ flowV N R x f = costTo R f R.length ∧ lstF (M : Int) R x ≤ costTo R f R.length := by
  have he := flow_exc0 h
  obtain ⟨M, rfl, h2, h3, _⟩ := exc_nat he
  have hf := (flowErr_iff he).1 h
  exact ⟨M, rfl, h2, h3, he, hf, (okF_iff he).2 ⟨f, hf⟩, by unfold flowV; rw [if_pos h], lstF_le he hf⟩
theorem lstF_at {M : Nat} {R : List Road} {x : List Int} (h : okF (M : Int) R x = true) : ∃ g, FlowR M R x g ∧ lstF (M : Int) R x = costTo R g R.length := by
  obtain ⟨M', e, h2, h3, h4, h5, h6, h7, h8, h9⟩ := okF_flow h
  obtain rfl : M = M' := by omega
  exact ⟨_, h7, h8⟩
/-- prices that prove a flow prove that it is a cheapest one -/
theorem proves {N : Int} {R : List Road} {x f p : List Int} (h : prcErr N R x f p = 0) : flowErr N R x f = 0 ∧ excErr N R x = 0 ∧ okF N R x = true ∧ flowV N R x f = lstF N R x := by
  obtain ⟨h1, h2, h3⟩ := prcErr_ok h
  obtain ⟨M, rfl, a, b, c, d, e, f1, g⟩ := flow_right h1
  refine ⟨h1, c, e, ?_⟩
  obtain ⟨g1, hg, hc⟩ := lstF_at e
  have := least_cheap b ((potB_iff R f p).1 h3) d hg
  omega
/-- the prices: how far the nodes are, from nowhere -/
def prcL (M : Nat) (R : List Road) (f : List Int) : List Int := (reachR M R f (List.replicate M 0)).at_
/-- a cheapest flow has a potential -/
theorem least_pot {M : Nat} {R : List Road} {x g : List Int} (he : excErr (M : Int) R x = 0) (hg : FlowR M R x g) (hc : costTo R g R.length ≤ lstF (M : Int) R x) : ∃ p, (netR R).arcs.Pot (stepsTo R g R.length) p := by
  have ho : okF (M : Int) R x = true := (okF_iff he).2 ⟨g, hg⟩
  obtain ⟨M', e, h2, h3, h4, h5, h6, h7, h8, h9⟩ := okF_flow ho
  obtain rfl : M = M' := by omega
  obtain ⟨p, hp⟩ := h5.inv.pot
  rw [h9] at h7 h8
  refine ⟨p, pot_all (netR_fine h3) (stepsR R _) (stepsR R g) (pot_of (stepsR R _) hp) h7.2.1 hg.2.1 (fun v hv => by rw [h7.2.2 v hv, hg.2.2 v hv]) ?_⟩
  rw [← costR, ← costR]; omega
/-- the prices that are made from a cheapest flow prove each cheapest flow -/
theorem prices_prove {M : Nat} {R : List Road} {x f g : List Int} (he : excErr (M : Int) R x = 0) (hf : FlowR M R x f) (hfc : costTo R f R.length ≤ lstF (M : Int) R x) (hg : FlowR M R x g) (hgc : costTo R g R.length ≤ lstF (M : Int) R x) : prcErr (M : Int) R x g (prcL M R f) = 0 := by
  obtain ⟨M', e, h2, h3, h4, h5⟩ := exc_nat he
  obtain rfl : M = M' := by omega
  obtain ⟨p, hp⟩ := least_pot he hf hfc
  have hz : ∀ v, gi (List.replicate M 0) v = 0 := fun v => by rw [gi_rep0]
  have hE := reachR_end h3 (f := f) (first := List.replicate M 0) (by simp) hp (fun v _ => by rw [hz]; unfold farR; omega)
  obtain ⟨v1, v2, v3⟩ := reachR_view h3 f (first := List.replicate M 0) (by simp)
  have hlt : ∀ v, v < M → gi (prcL M R f) v < farR := fun v hv => by
    have := hE.le v hv
    rw [hz] at this
    unfold prcL farR; omega
  have hIn := steps_in (netR_fine h3) (stepsR R f)
  have hpot : (netR R).arcs.Pot (stepsTo R f R.length) (gi (prcL M R f)) := fun s hs => by
    have := hE.sat s hs (hlt _ (hIn s hs).1)
    show gi (prcL M R f) _ ≤ _
    unfold prcL
    omega
  refine prcErr_mk ((flowErr_iff he).2 hg) (prcB_iff.2 ⟨v2, fun v hv => ?_⟩) ((potB_iff R g _).2 ?_)
  · obtain ⟨r, hr, _, h7, _, h8, h9⟩ := hE.bd hIn (K := 99) (by omega) (stepsR_ln h3 f) hv
    rw [hz] at h8 h9
    unfold prcL
    omega
  · exact pot_all (netR_fine h3) (stepsR R f) (stepsR R g) hpot hf.2.1 hg.2.1 (fun v hv => by rw [hf.2.2 v hv, hg.2.2 v hv]) (by
      have := lstF_le he hf
      rw [← costR, ← costR]; omega)
end Go.Proofs.Ytbejgbflipoboaa
/- Plain words of roads: rounds, and the flow that they lead to. No program in sight. -/
namespace Go.Proofs.Ytbejgbflipoboaa
open Go.RowKit

/-- the flow allows the step -/
def stOk (R : List Road) (f : List Int) (s : Int) : Bool := if s < 0 then decide (0 < gi f (stepNo s)) else decide (gi f (stepNo s) < (rdK R (stepNo s)).wd)
theorem mem_steps {R : List Road} {f : List Int} {s : Int} (hs : StepIn R.length s) : s ∈ stepsTo R f R.length ↔ stOk R f s = true := by
  rw [stepsTo_mem]
  unfold stOk
  show (StepIn R.length s ∧ if s < 0 then 0 < gi f (stepNo s) else gi f (stepNo s) < (rdK R (stepNo s)).wd) ↔ _
  by_cases h : s < 0
  · rw [if_pos h, if_pos h, decide_eq_true_eq]; exact ⟨fun h => h.2, fun h => ⟨hs, h⟩⟩
  · rw [if_neg h, if_neg h, decide_eq_true_eq]; exact ⟨fun h => h.2, fun h => ⟨hs, h⟩⟩
/-- a round for a flow -/
structure Rnd (R : List Road) (f c : List Int) : Prop where
  ok : ∀ i, i < c.length → stOk R f (gi c i) = true
  nx : ∀ i, i < c.length → stTo R (gi c i) = stFr R (gi c ((i + 1) % c.length))
  un : ∀ i j, i < j → j < c.length → stepNo (gi c i) ≠ stepNo (gi c j)
/-- where the round stands ahead of place i -/
def rndAt (R : List Road) (c : List Int) : Nat → Int
  | 0 => stTo R (gi c (c.length - 1))
  | i + 1 => stTo R (gi c i)
/-- the road has been used ahead of place i -/
def usedTo (c : List Int) (i : Nat) (k : Int) : Bool := (List.range i).any fun j => decide ((stepNo (gi c j) : Int) = k)
theorem usedTo_succ (c : List Int) (i : Nat) (k : Int) : usedTo c (i + 1) k = (usedTo c i k || decide ((stepNo (gi c i) : Int) = k)) := by simp [usedTo, List.range_succ]
def rndP (R : List Road) (f c : List Int) (i : Nat) : Bool := decide (stFr R (gi c i) = rndAt R c i) && (!usedTo c i (stepNo (gi c i)) && stOk R f (gi c i))
def rndTo (R : List Road) (f c : List Int) (n : Nat) : Bool := (List.range n).all (rndP R f c)
theorem rndTo_succ (R : List Road) (f c : List Int) (n : Nat) : rndTo R f c (n + 1) = (rndTo R f c n && rndP R f c n) := by simp [rndTo, List.range_succ]
theorem rndTo_no {R : List Road} {f c : List Int} {i n : Nat} (h : rndP R f c i = false) (hi : i < n) : rndTo R f c n = false := by
  unfold rndTo
  rw [List.all_eq_false]
  exact ⟨i, List.mem_range.2 hi, by simp [h]⟩
def newTo (c : List Int) (i n : Nat) : Bool := (List.range n).all fun k => !decide (gi c k = gi c i) && !decide (gi c k = -gi c i)
theorem newTo_succ (c : List Int) (i n : Nat) : newTo c i (n + 1) = (newTo c i n && (!decide (gi c n = gi c i) && !decide (gi c n = -gi c i))) := by simp [newTo, List.range_succ]
def rndQ (R : List Road) (f c : List Int) (i : Nat) : Bool := (stOk R f (gi c i) && decide (stTo R (gi c i) = stFr R (gi c ((i + 1) % c.length)))) && newTo c i i
def rndQTo (R : List Road) (f c : List Int) (n : Nat) : Bool := (List.range n).all (rndQ R f c)
theorem rndQTo_succ (R : List Road) (f c : List Int) (n : Nat) : rndQTo R f c (n + 1) = (rndQTo R f c n && rndQ R f c n) := by simp [rndQTo, List.range_succ]
theorem rndQTo_no {R : List Road} {f c : List Int} {i n : Nat} (h : rndQ R f c i = false) (hi : i < n) : rndQTo R f c n = false := by
  unfold rndQTo
  rw [List.all_eq_false]
  exact ⟨i, List.mem_range.2 hi, by simp [h]⟩
theorem rndTo_iff (R : List Road) (f c : List Int) : rndTo R f c c.length = true ↔ Rnd R f c := by
  unfold rndTo
  rw [List.all_eq_true]
  constructor
  · intro h
    have key : ∀ i, i < c.length → stFr R (gi c i) = rndAt R c i ∧ (∀ k, k < i → stepNo (gi c k) ≠ stepNo (gi c i)) ∧ stOk R f (gi c i) = true := fun i hi => by
      have := h i (List.mem_range.2 hi)
      unfold rndP at this
      rw [Bool.and_eq_true, Bool.and_eq_true, decide_eq_true_eq, Bool.not_eq_true'] at this
      refine ⟨this.1, fun k hk e => ?_, this.2.2⟩
      have h2 := this.2.1
      unfold usedTo at h2
      rw [List.any_eq_false] at h2
      exact h2 k (List.mem_range.2 hk) (by rw [decide_eq_true_eq, e])
    refine ⟨fun i hi => (key i hi).2.2, fun i hi => ?_, fun i j hij hj => (key j hj).2.1 i hij⟩
    by_cases e : i + 1 < c.length
    · rw [Nat.mod_eq_of_lt e, (key (i + 1) e).1]; rfl
    · have e2 : i + 1 = c.length := by omega
      rw [e2, Nat.mod_self, (key 0 (by omega)).1]
      show _ = stTo R (gi c (c.length - 1))
      rw [← e2]; rfl
  · intro h i hi
    have hi := List.mem_range.1 hi
    unfold rndP
    rw [Bool.and_eq_true, Bool.and_eq_true, decide_eq_true_eq, Bool.not_eq_true']
    refine ⟨?_, ?_, h.ok i hi⟩
    · cases i with
      | zero =>
        have := h.nx (c.length - 1) (by omega)
        rw [show c.length - 1 + 1 = c.length by omega, Nat.mod_self] at this
        exact this.symm
      | succ i =>
        have := h.nx i (by omega)
        rw [Nat.mod_eq_of_lt hi] at this
        exact this.symm
    · unfold usedTo
      rw [List.any_eq_false]
      intro k hk e
      rw [decide_eq_true_eq] at e
      exact h.un k i (List.mem_range.1 hk) hi (by omega)
theorem rndQTo_iff {R : List Road} {f c : List Int} (hc : ∀ i, i < c.length → StepIn R.length (gi c i)) : rndQTo R f c c.length = true ↔ Rnd R f c := by
  unfold rndQTo
  rw [List.all_eq_true]
  have hno : ∀ i j, i < c.length → j < c.length → (stepNo (gi c i) = stepNo (gi c j) ↔ gi c i = gi c j ∨ gi c i = -gi c j) := fun i j hi hj => by
    have h1 := hc i hi
    have h2 := hc j hj
    unfold StepIn at h1 h2
    unfold stepNo
    omega
  constructor
  · intro h
    have key : ∀ i, i < c.length → stOk R f (gi c i) = true ∧ stTo R (gi c i) = stFr R (gi c ((i + 1) % c.length)) ∧ ∀ k, k < i → stepNo (gi c k) ≠ stepNo (gi c i) := fun i hi => by
      have := h i (List.mem_range.2 hi)
      unfold rndQ at this
      rw [Bool.and_eq_true, Bool.and_eq_true, decide_eq_true_eq] at this
      refine ⟨this.1.1, this.1.2, fun k hk e => ?_⟩
      have h2 := this.2
      unfold newTo at h2
      rw [List.all_eq_true] at h2
      have h3 := h2 k (List.mem_range.2 hk)
      rw [Bool.and_eq_true, Bool.not_eq_true', Bool.not_eq_true', decide_eq_false_iff_not, decide_eq_false_iff_not] at h3
      rcases (hno k i (by omega) hi).1 e with e | e
      · exact h3.1 e
      · exact h3.2 e
    exact ⟨fun i hi => (key i hi).1, fun i hi => (key i hi).2.1, fun i j hij hj => (key j hj).2.2 i hij⟩
  · intro h i hi
    have hi := List.mem_range.1 hi
    unfold rndQ
    rw [Bool.and_eq_true, Bool.and_eq_true, decide_eq_true_eq]
    refine ⟨⟨h.ok i hi, h.nx i hi⟩, ?_⟩
    unfold newTo
    rw [List.all_eq_true]
    intro k hk
    have hk := List.mem_range.1 hk
    have := h.un k i hk hi
    rw [Bool.and_eq_true, Bool.not_eq_true', Bool.not_eq_true', decide_eq_false_iff_not, decide_eq_false_iff_not]
    exact ⟨fun e => this ((hno k i (by omega) hi).2 (.inl e)), fun e => this ((hno k i (by omega) hi).2 (.inr e))⟩
theorem rnd_same {R : List Road} {f c : List Int} (hc : ∀ i, i < c.length → StepIn R.length (gi c i)) : rndQTo R f c c.length = rndTo R f c c.length := by
  rw [Bool.eq_iff_iff, rndQTo_iff hc, rndTo_iff]
def stIn (n : Nat) (s : Int) : Bool := withinB s (-(n : Int)) n && !decide (s = 0)
theorem stIn_iff {n : Nat} {s : Int} : stIn n s = true ↔ StepIn n s := by
  unfold stIn withinB StepIn
  simp only [Bool.and_eq_true, decide_eq_true_eq, Bool.not_eq_true', decide_eq_false_iff_not]
  omega
def rndErr (N : Int) (R : List Road) (x f c : List Int) : Int :=
  if flowErr N R x f ≠ 0 then flowErr N R x f else if c.all (stIn R.length) then (if withinB c.length 1 12 then (if rndTo R f c c.length then 0 else 7) else 7) else 4
def lnTo (R : List Road) (c : List Int) (n : Nat) : Int := sumR (fun i => stLn R (gi c i)) n
def rndV (N : Int) (R : List Road) (x f c : List Int) : Int := if rndErr N R x f c = 0 then lnTo R c c.length else 0
def turnsTo (f c : List Int) (n : Nat) : List Int := (c.take n).foldl turnF f
def turnV (N : Int) (R : List Road) (x f c : List Int) : List Int := if rndErr N R x f c = 0 then turnsTo f c c.length else []
theorem turnsTo_succ {f c : List Int} {n : Nat} (h : n < c.length) : turnsTo f c (n + 1) = turnF (turnsTo f c n) (gi c n) := by
  unfold turnsTo
  rw [List.take_succ_eq_append_getElem h, List.foldl_append, gi_at h]; rfl
theorem turnsTo_length (f c : List Int) : ∀ n, (turnsTo f c n).length = f.length := by
  have : ∀ (l f : List Int), (l.foldl turnF f).length = f.length := by
    intro l
    induction l with
    | nil => intro f; rfl
    | cons s l ih => intro f; rw [List.foldl_cons, ih, turnF_length]
  exact fun n => this _ _
theorem rndErr_ok {N : Int} {R : List Road} {x f c : List Int} (h : rndErr N R x f c = 0) : flowErr N R x f = 0 ∧ (∀ s ∈ c, StepIn R.length s) ∧ 1 ≤ c.length ∧ c.length ≤ 12 ∧ Rnd R f c := by
  unfold rndErr at h
  by_cases h1 : flowErr N R x f = 0
  · rw [if_neg (by omega)] at h
    by_cases h2 : c.all (stIn R.length) = true
    · rw [if_pos h2] at h
      by_cases h3 : withinB c.length 1 12 = true
      · rw [if_pos h3] at h
        by_cases h4 : rndTo R f c c.length = true
        · rw [List.all_eq_true] at h2
          have h5 : 1 ≤ c.length ∧ c.length ≤ 12 := by simp [withinB] at h3; omega
          exact ⟨h1, fun s hs => stIn_iff.1 (h2 s hs), h5.1, h5.2, (rndTo_iff R f c).1 h4⟩
        · rw [if_neg h4] at h; omega
      · rw [if_neg h3] at h; omega
    · rw [if_neg h2] at h; omega
  · rw [if_pos h1] at h; exact absurd h h1
theorem rndErr_mk {N : Int} {R : List Road} {x f c : List Int} (h1 : flowErr N R x f = 0) (h2 : ∀ s ∈ c, StepIn R.length s) (h3 : 1 ≤ c.length) (h4 : c.length ≤ 12) (h5 : Rnd R f c) : rndErr N R x f c = 0 := by
  unfold rndErr
  rw [if_neg (by omega), if_pos (List.all_eq_true.2 fun s hs => stIn_iff.2 (h2 s hs)), if_pos (by simp [withinB]; omega), if_pos ((rndTo_iff R f c).2 h5)]
theorem turns_view : ∀ {c f : List Int}, (∀ s ∈ c, stepNo s < f.length) → gi (c.foldl turnF f) = turnsG (gi f) c
  | [], f, _ => rfl
  | s :: c, f, h => by
    rw [List.foldl_cons, turns_view (fun t ht => by rw [turnF_length]; exact h t (List.mem_cons_of_mem _ ht)), turn_view (h s List.mem_cons_self)]
    rfl
theorem lnTo_sum (R : List Road) (c : List Int) : lnTo R c c.length = sumLn (netR R).arcs c := by
  have key : ∀ k, k ≤ c.length → lnTo R c k = sumLn (netR R).arcs (c.take k) := by
    intro k
    induction k with
    | zero => intro _; simp [lnTo, sumR, sumLn]
    | succ k ih =>
      intro hk
      rw [List.take_succ_eq_append_getElem (by omega), sumLn_append, ← ih (by omega), ← gi_at (show k < c.length by omega)]
      simp only [lnTo, sumR, sumLn]
      rw [arcR_ln]; omega
  have := key c.length (Nat.le_refl _)
  rwa [List.take_length] at this
theorem rnd_end {R : List Road} {f c : List Int} (h : Rnd R f c) (v : Nat) : sumEnd (netR R) v c = 0 := by
  have app : ∀ (l m : List Int), sumEnd (netR R) v (l ++ m) = sumEnd (netR R) v l + sumEnd (netR R) v m := by
    intro l
    induction l with
    | nil => intro m; simp [sumEnd]
    | cons s l ih => intro m; simp only [List.cons_append, sumEnd]; rw [ih]; omega
  by_cases h0 : c.length = 0
  · rw [List.eq_nil_of_length_eq_zero h0]; rfl
  have key : ∀ k, k ≤ c.length → sumEnd (netR R) v (c.take k) = one ((netR R).arcs.fr (gi c 0)) v - one ((netR R).arcs.fr (gi c (k % c.length))) v := by
    intro k
    induction k with
    | zero => intro _; rw [Nat.zero_mod]; simp [sumEnd]
    | succ k ih =>
      intro hk
      rw [List.take_succ_eq_append_getElem (by omega), app, ih (by omega), ← gi_at (show k < c.length by omega), Nat.mod_eq_of_lt (show k < c.length by omega)]
      simp only [sumEnd]
      have := h.nx k (by omega)
      rw [arcR_to, this, ← arcR_fr]
      omega
  have := key c.length (Nat.le_refl _)
  rw [List.take_length, Nat.mod_self] at this
  omega
theorem rnd_turn {M : Nat} {R : List Road} {x f c : List Int} (hf : FlowR M R x f) (hc : ∀ s ∈ c, StepIn R.length s) (h : Rnd R f c) : FlowR M R x (turnsTo f c c.length) ∧ costTo R (turnsTo f c c.length) R.length = costTo R f R.length + lnTo R c c.length := by
  have hv : gi (turnsTo f c c.length) = turnsG (gi f) c := by
    unfold turnsTo
    rw [List.take_length, turns_view (fun s hs => by rw [hf.1]; exact stepNo_lt (hc s hs))]
  have hok : ∀ s ∈ c, (netR R).Ok (gi f) s := fun s hs => by
    obtain ⟨j, hj, rfl⟩ := List.getElem_of_mem hs
    have h1 := h.ok j hj
    rw [gi_at hj] at h1
    exact ((stepsR R f) _).1 ((mem_steps (hc _ hs)).2 h1)
  have hnd : (c.map eNo).Nodup := by
    rw [List.Nodup, List.pairwise_map, List.pairwise_iff_getElem]
    intro i j hi hj hij e
    have := h.un i j hij hj
    rw [gi_at hi, gi_at hj] at this
    exact this e
  refine ⟨⟨by rw [turnsTo_length]; exact hf.1, by rw [hv]; exact turnsG_fs hf.2.1 hok hnd, fun v hv2 => ?_⟩, ?_⟩
  · rw [hv, turnsG_out v c (gi f) (fun s hs => (hok s hs).1), rnd_end h, hf.2.2 v hv2]; omega
  · rw [costR, costR, hv, turnsG_cost c (gi f) (fun s hs => (hok s hs).1), lnTo_sum]
/-- what a round does -/
theorem rounds {N : Int} {R : List Road} {x f c : List Int} (h : rndErr N R x f c = 0) : flowErr N R x f = 0 ∧ flowErr N R x (turnV N R x f c) = 0 ∧ flowV N R x (turnV N R x f c) = flowV N R x f + rndV N R x f c := by
  obtain ⟨h1, h2, h3, h4, h5⟩ := rndErr_ok h
  obtain ⟨M, rfl, a, b, he, d, e, f1, g⟩ := flow_right h1
  obtain ⟨t1, t2⟩ := rnd_turn d h2 h5
  have h6 := (flowErr_iff he).2 t1
  unfold turnV rndV
  rw [if_pos h, if_pos h]
  refine ⟨h1, h6, ?_⟩
  rw [f1]
  unfold flowV
  rw [if_pos h6, t2]
/-! a round that makes a flow cheaper -/
/-- the state behind as many rounds as there are nodes, from nowhere -/
def rndS (M : Nat) (R : List Road) (f : List Int) : RS := reachR M R f (List.replicate M 0)
/-- k steps back from a node -/
def backN (R : List Road) (by_ : List Int) (v : Nat) : Nat → Nat
  | 0 => v
  | k + 1 => (stFr R (gi by_ (backN R by_ v k))).toNat
theorem back_view {R : List Road} {st : RS} {v : Nat} : ∀ {k : Nat}, (∀ y, y < k → ∃ s, (viewS st).by_ (predK (netR R).arcs (viewS st).by_ v y) = some s) → backN R st.by_ v k = predK (netR R).arcs (viewS st).by_ v k
  | 0, _ => rfl
  | k + 1, h => by
    have ih := back_view (R := R) (st := st) (v := v) (k := k) (fun y hy => h y (by omega))
    obtain ⟨s, hs⟩ := h k (by omega)
    simp only [backN, predK, predO]
    rw [hs, ih]
    have : gi st.by_ (predK (netR R).arcs (viewS st).by_ v k) = s := by
      simp only [viewS] at hs
      split at hs
      · simp at hs
      · injection hs
    show (stFr R (gi st.by_ _)).toNat = _
    rw [this]
    exact (arcR_fr R s).symm
/-- what going back finds -/
structure RndGo (M : Nat) (R : List Road) (f : List Int) (v : Nat) (l : List Int) : Prop where
  lt : ∀ y, y ≤ M → backN R (rndS M R f).by_ v y < M
  st : ∀ y, y < M → StepIn R.length (gi (rndS M R f).by_ (backN R (rndS M R f).by_ v y))
  len : 1 ≤ l.length ∧ l.length ≤ M
  at_ : ∀ y, y ≤ l.length → backN R (rndS M R f).by_ (backN R (rndS M R f).by_ v M) y < M
  by_ : ∀ y, (h : y < l.length) → gi (rndS M R f).by_ (backN R (rndS M R f).by_ (backN R (rndS M R f).by_ v M) y) = l[y]
  back : backN R (rndS M R f).by_ (backN R (rndS M R f).by_ v M) l.length = backN R (rndS M R f).by_ v M
  new : ∀ y, 1 ≤ y → y < l.length → backN R (rndS M R f).by_ (backN R (rndS M R f).by_ v M) y ≠ backN R (rndS M R f).by_ v M
  in_ : ∀ s ∈ l, StepIn R.length s
  rnd : Rnd R f l.reverse
  neg : lnTo R l.reverse l.reverse.length < 0
theorem sumLn_rev {α : Type} {A : Arcs α} (l : List α) : sumLn A l.reverse = sumLn A l := by
  induction l with
  | nil => rfl
  | cons s l ih => rw [List.reverse_cons, sumLn_append, ih]; simp only [sumLn]; omega
theorem rnd_go {M : Nat} {R : List Road} {f : List Int} (hok : NetOk (M : Int) R) (hl : 0 ≤ (rndS M R f).last) : ∃ v, v < M ∧ (rndS M R f).last = v ∧ ∃ l, RndGo M R f v l := by
  have hM := hok.n1
  obtain ⟨v1, v2, v3⟩ := reachR_view hok f (first := List.replicate M 0) (by simp)
  have hIn := steps_in (netR_fine hok) (stepsR R f)
  have hne : ∀ s ∈ stepsTo R f R.length, (netR R).arcs.fr s ≠ (netR R).arcs.to s := fun s hs e => by
    have hs2 := stepsTo_in R f R.length s hs
    have := stepNo_lt hs2
    have h1 := hok.ne _ this
    have h2 := hok.fr _ this
    have h3 := hok.to _ this
    rw [arcR_fr, arcR_to] at e
    unfold stFr stTo at e
    rw [rdK_at this] at e
    split at e <;> omega
  have hz : ∀ v, gi (List.replicate M 0) v = 0 := fun v => by rw [gi_rep0]
  have hl2 : 0 ≤ (viewS (rndS M R f)).last := hl
  have e1 : viewS (rndS M R f) = (netR R).arcs.reach farR (stepsTo R f R.length) ⟨gi (List.replicate M 0), fun _ => none, 0⟩ M := v1
  rw [e1] at hl2
  obtain ⟨v, hv, hlast, hsome, hlt, l, hc, hlen, hneg, hin⟩ := reach_cyc (A := (netR R).arcs) (far := farR) (N := M) (by omega) hIn hne (first := gi (List.replicate M 0)) (fun v _ => by rw [hz]; unfold farR; omega) 0 hl2
  rw [← e1] at hlast hsome hlt hc
  have hb1 : ∀ y, y ≤ M → backN R (rndS M R f).by_ v y = predK (netR R).arcs (viewS (rndS M R f)).by_ v y := fun y hy => back_view (fun z hz => hsome z (by omega))
  have hb2 : ∀ y, y ≤ l.length → backN R (rndS M R f).by_ (backN R (rndS M R f).by_ v M) y = predK (netR R).arcs (viewS (rndS M R f)).by_ (predK (netR R).arcs (viewS (rndS M R f)).by_ v M) y := fun y hy => by
    rw [hb1 M (Nat.le_refl _)]
    exact back_view (fun z hz => ⟨l[z]'(by omega), (hc.step z (by omega)).1⟩)
  have hval : ∀ {u s}, (viewS (rndS M R f)).by_ u = some s → gi (rndS M R f).by_ u = s := fun {u s} h => by
    simp only [viewS] at h
    split at h
    · simp at h
    · injection h
  -- the invariant of a run from zeros tells where steps end
  obtain ⟨clk, u, t, hI, _⟩ := ninv_reach (A := (netR R).arcs) (far := farR) hIn hne (first := gi (List.replicate M 0)) (fun v _ => by rw [hz]; unfold farR; omega) 0 M
  rw [← e1] at hI
  have hlt2 : ∀ y, y ≤ l.length → predK (netR R).arcs (viewS (rndS M R f)).by_ (predK (netR R).arcs (viewS (rndS M R f)).by_ v M) y < M :=
    hc.lt (hlt M (Nat.le_refl _)) (fun v hv s hs => (hIn s (hI.edge v hv s hs).1).1)
  have hto : ∀ y, (hy : y < l.length) → (netR R).arcs.to l[y] = predK (netR R).arcs (viewS (rndS M R f)).by_ (predK (netR R).arcs (viewS (rndS M R f)).by_ v M) y := fun y hy =>
    (hI.edge _ (hlt2 y (by omega)) _ (hc.step y hy).1).2.1
  have hst : ∀ s ∈ l, StepIn R.length s := fun s hs => stepsTo_in R f R.length s (hin s hs)
  have hroads := cyc_roads hc hto (fun s hs => hst s hs) hneg
  refine ⟨v, hv, hlast, l, ?_, ?_, ⟨hc.len, hlen⟩, ?_, ?_, ?_, ?_, hst, ?_, ?_⟩
  · intro y hy; rw [hb1 y hy]; exact hlt y hy
  · intro y hy
    obtain ⟨s, hs⟩ := hsome y hy
    rw [hb1 y (by omega), hval hs]
    exact stepsTo_in R f R.length s (hI.edge _ (hlt y (by omega)) s hs).1
  · intro y hy; rw [hb2 y hy]; exact hlt2 y hy
  · intro y hy; rw [hb2 y (by omega)]; exact hval (hc.step y hy).1
  · rw [hb2 _ (Nat.le_refl _), hb1 M (Nat.le_refl _)]; exact hc.back
  · intro y h1 h2 e
    rw [hb2 y (by omega), hb1 M (Nat.le_refl _)] at e
    exact hc.dist 0 y (by omega) h2 e.symm
  · have hg : ∀ i, (hi : i < l.length) → gi l.reverse i = l[l.length - 1 - i]'(by omega) := fun i hi => by
      rw [gi_at (by simpa using hi), List.getElem_reverse]
    refine ⟨fun i hi => ?_, fun i hi => ?_, fun i j hij hj => ?_⟩
    · rw [List.length_reverse] at hi
      rw [hg i hi]
      exact (mem_steps (hst _ (List.getElem_mem _))).1 (hin _ (List.getElem_mem _))
    · rw [List.length_reverse] at hi ⊢
      have key : ∀ a b, (ha : a < l.length) → (hb : b < l.length) → (a = b + 1 ∨ (a = 0 ∧ b + 1 = l.length)) → stTo R l[a] = stFr R l[b] := fun a b ha hb h => by
        have h1 := hto a ha
        have h2 := (hc.step b hb).2
        have h3 : (netR R).arcs.to l[a] = (netR R).arcs.fr l[b] := by
          rw [h1, h2]
          rcases h with h | ⟨h, h'⟩
          · rw [h]
          · rw [h, h', hc.back]
        rw [arcR_to, arcR_fr] at h3
        have h4 := stTo_bd hok (hst _ (List.getElem_mem ha))
        have h5 := stFr_bd hok (hst _ (List.getElem_mem hb))
        omega
      rw [hg i hi]
      by_cases e : i + 1 < l.length
      · rw [Nat.mod_eq_of_lt e, hg _ e]
        exact key _ _ _ _ (.inl (by omega))
      · rw [show i + 1 = l.length by omega, Nat.mod_self, hg 0 (by omega)]
        exact key _ _ _ _ (.inr ⟨by omega, by omega⟩)
    · rw [List.length_reverse] at hj
      rw [hg i (by omega), hg j hj]
      rw [List.Nodup, List.pairwise_map, List.pairwise_iff_getElem] at hroads
      exact fun e => hroads (l.length - 1 - j) (l.length - 1 - i) (by omega) (by omega) (by omega) e.symm
  · rw [lnTo_sum, sumLn_rev]; exact hneg
/-- the last round has changed nothing: the flow is a cheapest one -/
theorem rnd_none {M : Nat} {R : List Road} {x f : List Int} (he : excErr (M : Int) R x = 0) (hf : FlowR M R x f) (hl : (rndS M R f).last < 0) : costTo R f R.length = lstF (M : Int) R x := by
  obtain ⟨M', e, h2, h3, h4, h5⟩ := exc_nat he
  obtain rfl : M = M' := by omega
  obtain ⟨v1, v2, v3⟩ := reachR_view h3 f (first := List.replicate M 0) (by simp)
  have e1 : viewS (rndS M R f) = (netR R).arcs.reach farR (stepsTo R f R.length) ⟨gi (List.replicate M 0), fun _ => none, 0⟩ M := v1
  have hl2 : (viewS (rndS M R f)).last < 0 := hl
  obtain ⟨K, rfl⟩ : ∃ K, M = K + 1 := ⟨M - 1, by omega⟩
  rw [e1] at hl2
  simp only [Arcs.reach] at hl2
  obtain ⟨s1, s2⟩ := last_sat hl2
  have hIn := steps_in (netR_fine h3) (stepsR R f)
  have hz : ∀ v, gi (List.replicate (K + 1) 0) v = 0 := fun v => by rw [gi_rep0]
  have hp : (netR R).arcs.Pot (stepsTo R f R.length) ((netR R).arcs.reach farR (stepsTo R f R.length) ⟨gi (List.replicate (K + 1) 0), fun _ => none, 0⟩ K).at_ := fun s hs => by
    have h6 := reach_le (A := (netR R).arcs) (far := farR) (stepsTo R f R.length) ⟨gi (List.replicate (K + 1) 0), fun _ => none, 0⟩ ((netR R).arcs.fr s) K
    have := s1 s hs (by
      refine Int.lt_of_le_of_lt h6 ?_
      show gi (List.replicate (K + 1) 0) _ < farR
      rw [hz]; unfold farR; omega)
    omega
  obtain ⟨g, hg, hc⟩ := lstF_at ((okF_iff he).2 ⟨f, hf⟩)
  have h7 := least_cheap h3 hp hf hg
  have h8 := lstF_le he hf
  omega
theorem rnd_some {M : Nat} {R : List Road} {x f c : List Int} (he : excErr (M : Int) R x = 0) (hf : FlowR M R x f) (hc : ∀ s ∈ c, StepIn R.length s) (h : Rnd R f c) (hn : lnTo R c c.length < 0) : lstF (M : Int) R x < costTo R f R.length := by
  obtain ⟨h1, h2⟩ := rnd_turn hf hc h
  have := lstF_le he h1
  omega
end Go.Proofs.Ytbejgbflipoboaa
/- Plain words of roads: the errors of a round, case by case. No program in sight. -/
namespace Go.Proofs.Ytbejgbflipoboaa
open Go.RowKit

section
variable {N : Int} {R : List Road} {x f c : List Int}
theorem rndErr_flow (h : flowErr N R x f ≠ 0) : rndErr N R x f c = flowErr N R x f := by unfold rndErr; rw [if_pos h]
theorem rndErr_4 (h : flowErr N R x f = 0) {i : Nat} (hi : i < c.length) (h2 : stIn R.length (gi c i) = false) : rndErr N R x f c = 4 := by
  rw [gi_at hi] at h2
  unfold rndErr; rw [if_neg (by omega), all_no hi h2]; rfl
theorem rndErr_len (h : flowErr N R x f = 0) (h2 : ∀ j, j < c.length → stIn R.length (gi c j) = true) (h3 : withinB c.length 1 12 = false) : rndErr N R x f c = 7 := by
  unfold rndErr; rw [if_neg (by omega), if_pos (all_yes fun j hj => by rw [← gi_at hj]; exact h2 j hj), h3]; rfl
theorem rndErr_no (h : flowErr N R x f = 0) (h2 : ∀ j, j < c.length → stIn R.length (gi c j) = true) (h4 : rndTo R f c c.length = false) : rndErr N R x f c = 7 := by
  unfold rndErr; rw [if_neg (by omega), if_pos (all_yes fun j hj => by rw [← gi_at hj]; exact h2 j hj), h4]; simp
theorem rndErr_yes (h : flowErr N R x f = 0) (h2 : ∀ j, j < c.length → stIn R.length (gi c j) = true) (h3 : withinB c.length 1 12 = true) (h4 : rndTo R f c c.length = true) : rndErr N R x f c = 0 := by
  unfold rndErr; rw [if_neg (by omega), if_pos (all_yes fun j hj => by rw [← gi_at hj]; exact h2 j hj), if_pos h3, if_pos h4]
theorem rndV_no (h : rndErr N R x f c ≠ 0) : rndV N R x f c = 0 := by unfold rndV; rw [if_neg h]
theorem rndV_yes (h : rndErr N R x f c = 0) : rndV N R x f c = lnTo R c c.length := by unfold rndV; rw [if_pos h]
theorem turnV_no (h : rndErr N R x f c ≠ 0) : turnV N R x f c = [] := by unfold turnV; rw [if_neg h]
theorem turnV_yes (h : rndErr N R x f c = 0) : turnV N R x f c = turnsTo f c c.length := by unfold turnV; rw [if_pos h]
theorem rndQ_err (h : flowErr N R x f = 0) (h2 : ∀ j, j < c.length → stIn R.length (gi c j) = true) {i : Nat} (hi : i < c.length) (hq : rndQ R f c i = false) : rndErr N R x f c = 7 := by
  refine rndErr_no h h2 ?_
  rw [← rnd_same (fun j hj => stIn_iff.1 (h2 j hj))]
  exact rndQTo_no hq hi
theorem rndP_err (h : flowErr N R x f = 0) (h2 : ∀ j, j < c.length → stIn R.length (gi c j) = true) {i : Nat} (hi : i < c.length) (hq : rndP R f c i = false) : rndErr N R x f c = 7 :=
  rndErr_no h h2 (rndTo_no hq hi)
theorem newTo_no {i k n : Nat} (h : (!decide (gi c k = gi c i) && !decide (gi c k = -gi c i)) = false) (hk : k < n) : newTo c i n = false := by
  unfold newTo
  rw [List.all_eq_false]
  exact ⟨k, List.mem_range.2 hk, by rw [h]; simp⟩
theorem rndQ_no1 {i : Nat} (h : stOk R f (gi c i) = false) : rndQ R f c i = false := by unfold rndQ; rw [h]; rfl
theorem rndQ_no2 {i : Nat} (h : ¬ stTo R (gi c i) = stFr R (gi c ((i + 1) % c.length))) : rndQ R f c i = false := by unfold rndQ; rw [decide_eq_false h]; simp
theorem rndQ_no3 {i : Nat} (h : newTo c i i = false) : rndQ R f c i = false := by unfold rndQ; rw [h]; simp
theorem rndQ_yes {i : Nat} (h1 : stOk R f (gi c i) = true) (h2 : stTo R (gi c i) = stFr R (gi c ((i + 1) % c.length))) (h3 : newTo c i i = true) : rndQ R f c i = true := by unfold rndQ; rw [h1, decide_eq_true h2, h3]; rfl
theorem lnTo_succ (R : List Road) (c : List Int) (n : Nat) : lnTo R c (n + 1) = lnTo R c n + stLn R (gi c n) := rfl
theorem lnTo_bd (hok : NetOk N R) (hc : ∀ j, j < c.length → StepIn R.length (gi c j)) : ∀ n, n ≤ c.length → -99 * (n : Int) ≤ lnTo R c n ∧ lnTo R c n ≤ 99 * n
  | 0, _ => by simp [lnTo, sumR]
  | n + 1, hn => by
    have ih := lnTo_bd hok hc n (by omega)
    have := stLn_bd hok (hc n (by omega))
    rw [lnTo_succ]; omega
theorem stIn_parts {n : Nat} {s : Int} : stIn n s = (withinB s (-(n : Int)) n && !decide (s = 0)) := rfl
end
end Go.Proofs.Ytbejgbflipoboaa
/- Plain words of roads: barriers, as both sides tell them. No program in sight. -/
namespace Go.Proofs.Ytbejgbflipoboaa
open Go.RowKit

def barOkAt (N : Int) (c : List Int) (i : Nat) : Bool := withinB (gi c i) 0 (N - 1) && (decide (i = 0) || decide (gi c (i - 1) < gi c i))
def barOkTo (N : Int) (c : List Int) (k : Nat) : Bool := (List.range k).all (barOkAt N c)
theorem barOkTo_no {N : Int} {c : List Int} {i n : Nat} (h : barOkAt N c i = false) (hi : i < n) : barOkTo N c n = false := by
  unfold barOkTo
  rw [List.all_eq_false]
  exact ⟨i, List.mem_range.2 hi, by simp [h]⟩
theorem barOkTo_succ (N : Int) (c : List Int) (n : Nat) : barOkTo N c (n + 1) = (barOkTo N c n && barOkAt N c n) := by simp [barOkTo, List.range_succ]
theorem barOk_at {N : Int} {c : List Int} {n : Nat} (h : barOkTo N c n = true) {i : Nat} (hi : i < n) : 0 ≤ gi c i ∧ gi c i ≤ N - 1 ∧ (0 < i → gi c (i - 1) < gi c i) := by
  unfold barOkTo at h
  rw [List.all_eq_true] at h
  have := h i (List.mem_range.2 hi)
  unfold barOkAt at this
  rw [Bool.and_eq_true, withinB_iff, Bool.or_eq_true, decide_eq_true_eq, decide_eq_true_eq] at this
  refine ⟨this.1.1, this.1.2, fun h0 => ?_⟩
  rcases this.2 with e | e
  · omega
  · exact e
theorem barOk_lt {N : Int} {c : List Int} {n : Nat} (h : barOkTo N c n = true) : ∀ {i j : Nat}, i < j → j < n → gi c i < gi c j := by
  intro i j
  induction j with
  | zero => intro h1; omega
  | succ j ih =>
    intro h1 h2
    have h3 := (barOk_at h h2).2.2 (by omega)
    rw [Nat.add_sub_cancel] at h3
    by_cases e : i = j
    · subst e; exact h3
    · have := ih (by omega) (by omega); omega
/-- the number is among the first k -/
def inSt (c : List Int) (k : Nat) (v : Int) : Bool := (List.range k).any fun j => decide (gi c j = v)
theorem inSt_zero (c : List Int) (v : Int) : inSt c 0 v = false := rfl
theorem inSt_succ (c : List Int) (k : Nat) (v : Int) : inSt c (k + 1) v = (inSt c k v || decide (gi c k = v)) := by simp [inSt, List.range_succ]
theorem inSt_iff {c : List Int} {k : Nat} {v : Int} : inSt c k v = true ↔ ∃ j, j < k ∧ gi c j = v := by
  unfold inSt
  rw [List.any_eq_true]
  exact ⟨fun ⟨j, h1, h2⟩ => ⟨j, List.mem_range.1 h1, of_decide_eq_true h2⟩, fun ⟨j, h1, h2⟩ => ⟨j, List.mem_range.2 h1, decide_eq_true h2⟩⟩
def setSum (x c : List Int) (k : Nat) : Int := sumR (fun j => gi x (gi c j).toNat) k
def lessS (R : List Road) (x c : List Int) : Nat → Int
  | 0 => setSum x c c.length
  | k + 1 => if inSt c c.length (rdK R k).fr && !inSt c c.length (rdK R k).to then lessS R x c k - (rdK R k).wd else lessS R x c k
def barErr (N : Int) (R : List Road) (x c : List Int) : Int :=
  if excErr N R x ≠ 0 then excErr N R x else if barOkTo N c c.length then (if lessS R x c R.length ≤ 0 then 7 else 0) else 1
/-- the set, as flags; the first k of its nodes -/
def flagsTo (M : Nat) (c : List Int) (k : Nat) : List Bool := (List.range M).map fun v : Nat => inSt c k (v : Int)
theorem flagsTo_length (M : Nat) (c : List Int) (k : Nat) : (flagsTo M c k).length = M := by simp [flagsTo]
theorem flagsTo_zero (M : Nat) (c : List Int) : flagsTo M c 0 = List.replicate M false := by unfold flagsTo; rw [List.eq_replicate_iff]; simp [inSt]
theorem gb_flags {M : Nat} {c : List Int} {k v : Nat} (h : v < M) : gb (flagsTo M c k) v = inSt c k v := by simp [gb, flagsTo, h]
theorem flagsTo_set {M : Nat} {c : List Int} {k : Nat} (h : 0 ≤ gi c k) : (flagsTo M c k).set (gi c k).toNat true = flagsTo M c (k + 1) := List.ext_getElem (by simp [flagsTo]) fun j h1 h2 => by
  rw [List.getElem_set]
  simp only [flagsTo, List.getElem_map, List.getElem_range, inSt_succ]
  by_cases e : (gi c k).toNat = j
  · rw [if_pos e, decide_eq_true (show gi c k = (j : Int) by omega)]; simp
  · rw [if_neg e, decide_eq_false (show ¬ gi c k = (j : Int) by omega)]; simp
theorem sum_flags {M : Nat} {c x : List Int} (h : barOkTo (M : Int) c c.length = true) : ∀ k, k ≤ c.length → sumR (fun v => if inSt c k (v : Nat) then gi x v else 0) M = setSum x c k := by
  intro k
  induction k with
  | zero =>
    intro _
    rw [sumR_N]
    simp only [inSt_zero, setSum, sumR]
    exact (sumN_congr fun v _ => by simp).trans (sumN_zero M)
  | succ k ih =>
    intro hk
    obtain ⟨h1, h2, _⟩ := barOk_at h (show k < c.length by omega)
    have ih := ih (by omega)
    simp only [setSum, sumR] at ih ⊢
    rw [← ih, sumR_N, sumR_N]
    have h3 : ∀ v, v < M → (if inSt c (k + 1) (v : Nat) then gi x v else 0) = (if inSt c k (v : Nat) then gi x v else 0) + (if v = (gi c k).toNat then gi x v else 0) := fun v _ => by
      rw [inSt_succ]
      by_cases e : v = (gi c k).toNat
      · have e2 : gi c k = (v : Int) := by omega
        have h4 : inSt c k (v : Int) = false := by
          rw [Bool.eq_false_iff]
          intro h5
          obtain ⟨j, hj, h6⟩ := inSt_iff.1 h5
          have := barOk_lt h hj (by omega)
          omega
        rw [h4, decide_eq_true e2, if_pos e]; simp
      · rw [decide_eq_false (show ¬ gi c k = (v : Int) by omega), if_neg e, Bool.or_false, Int.add_zero]
    rw [sumN_congr h3, sumN_add, sumN_pick (fun v => gi x v), if_pos (by omega)]
theorem less_flags {M : Nat} {R : List Road} (hok : NetOk (M : Int) R) {c x : List Int} (h : barOkTo (M : Int) c c.length = true) : ∀ k, k ≤ R.length → lessTo R x (flagsTo M c c.length) M k = lessS R x c k
  | 0, _ => by
    simp only [lessTo, lessS, inTo]
    rw [← sum_flags h c.length (Nat.le_refl _)]
    exact sumR_congr (n := M) (fun v hv => by rw [gb_flags hv]) M (Nat.le_refl _)
  | k + 1, hk => by
    have h1 := hok.fr k (by omega)
    have h2 := hok.to k (by omega)
    simp only [lessTo, lessS, rdK_at (show k < R.length by omega)]
    rw [less_flags hok h k (by omega), gb_flags (by omega), gb_flags (by omega), show ((R[k].fr.toNat : Nat) : Int) = R[k].fr by omega, show ((R[k].to.toNat : Nat) : Int) = R[k].to by omega]
theorem dam_flags {M : Nat} {R : List Road} (hok : NetOk (M : Int) R) {c x : List Int} (h : barOkTo (M : Int) c c.length = true) : damB M R x (flagsTo M c c.length) = decide (0 < lessS R x c R.length) := by
  unfold damB; rw [less_flags hok h _ (Nat.le_refl _)]
theorem setSum_bd {x c : List Int} (h : ∀ j, j < x.length → -30 ≤ gi x j ∧ gi x j ≤ 30) : ∀ k : Nat, -30 * (k : Int) ≤ setSum x c k ∧ setSum x c k ≤ 30 * k
  | 0 => by simp [setSum, sumR]
  | k + 1 => by
    have ih := setSum_bd (c := c) h k
    have h1 : -30 ≤ gi x (gi c k).toNat ∧ gi x (gi c k).toNat ≤ 30 := by
      by_cases e : (gi c k).toNat < x.length
      · exact h _ e
      · rw [gi_out (by omega)]; omega
    simp only [setSum, sumR] at ih ⊢
    omega
theorem lessS_bd {N : Int} {R : List Road} (hok : NetOk N R) {x c : List Int} (h : ∀ j, j < x.length → -30 ≤ gi x j ∧ gi x j ≤ 30) : ∀ k : Nat, k ≤ R.length → -30 * (c.length : Int) - 60 * k ≤ lessS R x c k ∧ lessS R x c k ≤ 30 * c.length
  | 0, _ => by have := setSum_bd (c := c) h c.length; simp only [lessS]; omega
  | k + 1, hk => by
    have ih := lessS_bd (c := c) hok h k (by omega)
    have := hok.wd k (by omega)
    simp only [lessS, rdK_at (show k < R.length by omega)]
    split <;> omega
/-! the barrier that is returned -/
/-- a step spreads what is reached -/
def spread (R : List Road) (S : Int → Bool) (s : Int) : Int → Bool := if S (stFr R s) then updB S (stTo R s) true else S
def spreadTo (R : List Road) (L : List Int) (S : Int → Bool) : Nat → Int → Bool
  | 0 => S
  | k + 1 => L.foldl (spread R) (spreadTo R L S k)
def startS (lf : List Int) (k : Nat) (v : Int) : Bool := (List.range k).any fun j => decide (0 < gi lf j) && decide ((j : Int) = v)
theorem startS_succ (lf : List Int) (k : Nat) (v : Int) : startS lf (k + 1) v = (startS lf k v || (decide (0 < gi lf k) && decide ((k : Int) = v))) := by simp [startS, List.range_succ]
theorem startS_at {lf : List Int} {k j : Nat} (hj : j < k) (h : 0 < gi lf j) : startS lf k j = true := by
  unfold startS
  rw [List.any_eq_true]
  exact ⟨j, List.mem_range.2 hj, by simp [h]⟩
theorem startS_iff {lf : List Int} {k : Nat} {v : Int} (h : startS lf k v = true) : ∃ j : Nat, j < k ∧ 0 < gi lf j ∧ v = j := by
  unfold startS at h
  rw [List.any_eq_true] at h
  obtain ⟨j, h1, h2⟩ := h
  rw [Bool.and_eq_true, decide_eq_true_eq, decide_eq_true_eq] at h2
  exact ⟨j, List.mem_range.1 h1, h2.1, h2.2.symm⟩
theorem startS_upd {lf : List Int} {k : Nat} (h : 0 < gi lf k) (v : Int) : updB (startS lf k) k true v = startS lf (k + 1) v := by
  rw [startS_succ]
  unfold updB
  by_cases e : v = k
  · subst e; rw [if_pos rfl, decide_eq_true h]; simp
  · rw [if_neg e, decide_eq_false (show ¬ (k : Int) = v by omega)]; simp
theorem startS_same {lf : List Int} {k : Nat} (h : ¬ 0 < gi lf k) (v : Int) : startS lf k v = startS lf (k + 1) v := by
  rw [startS_succ, decide_eq_false h]; simp
def barSet (M : Nat) (R : List Road) (x : List Int) : Int → Bool := spreadTo R (stepsTo R (shipV M R x).1 R.length) (startS (shipV M R x).2 M) M
/-- the nodes of a set below k, as a list -/
def listTo (S : Int → Bool) (k : Nat) : List Int := ((List.range k).filter fun v => S (v : Nat)).map fun v : Nat => (v : Int)
theorem listTo_succ (S : Int → Bool) (k : Nat) : listTo S (k + 1) = listTo S k ++ if S k then [(k : Int)] else [] := by
  unfold listTo
  rw [List.range_succ, List.filter_append, List.map_append]
  congr 1
  cases h : S k <;> simp [h]
theorem listTo_length (S : Int → Bool) : ∀ k, (listTo S k).length ≤ k
  | 0 => by simp [listTo]
  | k + 1 => by
    have := listTo_length S k
    rw [listTo_succ, List.length_append]
    split <;> simp <;> omega
theorem listTo_mem {S : Int → Bool} {k : Nat} {v : Int} : v ∈ listTo S k ↔ ∃ j : Nat, j < k ∧ S j = true ∧ v = j := by
  unfold listTo
  rw [List.mem_map]
  constructor
  · rintro ⟨j, h1, h2⟩
    obtain ⟨h3, h4⟩ := List.mem_filter.1 h1
    exact ⟨j, List.mem_range.1 h3, h4, h2.symm⟩
  · rintro ⟨j, h1, h2, h3⟩
    exact ⟨j, List.mem_filter.2 ⟨List.mem_range.2 h1, h2⟩, h3.symm⟩
theorem listTo_asc (S : Int → Bool) (k : Nat) : (listTo S k).Pairwise (· < ·) := by
  unfold listTo
  rw [List.pairwise_map]
  refine List.Pairwise.imp (R := (· < ·)) (fun h => by omega) ?_
  exact List.Pairwise.filter _ List.pairwise_lt_range
theorem listTo_ok (S : Int → Bool) (M : Nat) : barOkTo (M : Int) (listTo S M) (listTo S M).length = true := by
  unfold barOkTo
  rw [List.all_eq_true]
  intro i hi
  have hi := List.mem_range.1 hi
  unfold barOkAt
  rw [Bool.and_eq_true, withinB_iff, Bool.or_eq_true, decide_eq_true_eq, decide_eq_true_eq, gi_at hi]
  obtain ⟨j, h1, h2, h3⟩ := listTo_mem.1 (List.getElem_mem hi)
  refine ⟨by omega, ?_⟩
  by_cases e : i = 0
  · exact .inl e
  · right
    rw [gi_at (show i - 1 < (listTo S M).length by omega)]
    exact List.pairwise_iff_getElem.1 (listTo_asc S M) (i - 1) i (by omega) hi (by omega)
theorem listTo_in {S : Int → Bool} {M v : Nat} (h : v < M) : inSt (listTo S M) (listTo S M).length v = S v := by
  rw [Bool.eq_iff_iff, inSt_iff]
  constructor
  · rintro ⟨j, h1, h2⟩
    rw [gi_at h1] at h2
    obtain ⟨u, h3, h4, h5⟩ := listTo_mem.1 (List.getElem_mem h1)
    rw [← h2, h5]; exact h4
  · intro hs
    obtain ⟨j, hj, e⟩ := List.getElem_of_mem (listTo_mem.2 ⟨v, h, hs, rfl⟩)
    exact ⟨j, hj, by rw [gi_at hj]; exact e⟩
/-- the labels of a set: 0 within, 1 without; arcs without length -/
def flat (R : List Road) : Arcs Int := ⟨fun s => (stFr R s).toNat, fun s => (stTo R s).toNat, fun _ => 0⟩
def FlatAt (S : Int → Bool) (st : Lb Int) : Prop := ∀ v : Nat, st.at_ v = if S v then 0 else 1
theorem flat_relax {M : Nat} {R : List Road} (hok : NetOk (M : Int) R) {S : Int → Bool} {st : Lb Int} (h : FlatAt S st) {s : Int} (hs : StepIn R.length s) : FlatAt (spread R S s) ((flat R).relax 1 st s) := by
  have h1 := stFr_bd hok hs
  have h2 := stTo_bd hok hs
  obtain ⟨a, ha⟩ := Int.eq_ofNat_of_zero_le h1.1
  obtain ⟨b, hb⟩ := Int.eq_ofNat_of_zero_le h2.1
  have ca : st.at_ a = if S a then 0 else 1 := h a
  have cb : st.at_ b = if S b then 0 else 1 := h b
  intro v
  unfold Arcs.relax Arcs.Cond spread
  simp only [flat, Arcs.put, ha, hb, Int.toNat_natCast, ca, cb]
  cases h3 : S a <;> cases h4 : S b
  · simpa [h3, h4] using h v
  · simpa [h3, h4] using h v
  · have hc : ((0 : Int) < 1 ∧ (0 : Int) + 0 < 1) := by omega
    simp only [if_true, Bool.false_eq_true, if_false, updB]
    rw [if_pos hc]
    by_cases e : v = b
    · subst e; simp [upd]
    · have e2 : ¬ (v : Int) = b := by omega
      simp only [upd, if_neg e, if_neg e2]; exact h v
  · have hc : ¬ ((0 : Int) < 1 ∧ (0 : Int) + 0 < 0) := by omega
    simp only [if_true, updB]
    rw [if_neg hc]
    by_cases e : v = b
    · subst e; simp [h v, h4]
    · have e2 : ¬ (v : Int) = b := by omega
      simp only [if_neg e2]; exact h v
theorem flat_fold {M : Nat} {R : List Road} (hok : NetOk (M : Int) R) : ∀ {L : List Int} {S : Int → Bool} {st : Lb Int}, FlatAt S st → (∀ s ∈ L, StepIn R.length s) → FlatAt (L.foldl (spread R) S) (L.foldl ((flat R).relax 1) st)
  | [], _, _, h, _ => h
  | s :: L, S, st, h, hL => by
    rw [List.foldl_cons, List.foldl_cons]
    exact flat_fold hok (flat_relax hok h (hL s List.mem_cons_self)) (fun t ht => hL t (List.mem_cons_of_mem _ ht))
theorem flat_reach {M : Nat} {R : List Road} (hok : NetOk (M : Int) R) {L : List Int} {S : Int → Bool} {st : Lb Int} (h : FlatAt S st) (hL : ∀ s ∈ L, StepIn R.length s) : ∀ k, FlatAt (spreadTo R L S k) ((flat R).reach 1 L st k)
  | 0 => h
  | k + 1 => flat_fold hok (st := { (flat R).reach 1 L st k with last := -1 }) (flat_reach hok h hL k) hL
/-- as many rounds as there are nodes reach all -/
theorem spread_closed {M : Nat} {R : List Road} (hok : NetOk (M : Int) R) {L : List Int} (hL : ∀ s ∈ L, StepIn R.length s) (S : Int → Bool) : ∀ s ∈ L, spreadTo R L S M (stFr R s) = true → spreadTo R L S M (stTo R s) = true := by
  intro s hs h
  have hf := flat_reach hok (L := L) (S := S) (st := ⟨fun v => if S v then 0 else 1, fun _ => none, 0⟩) (fun v => rfl) hL M
  have hin : (flat R).In M L := fun t ht => by
    have h1 := stFr_bd hok (hL t ht)
    have h2 := stTo_bd hok (hL t ht)
    simp only [flat]; omega
  have hsat := reach_sat' (A := flat R) (far := 1) (N := M) (p := fun _ => 0) hin (fun t _ => by simp [flat]) ⟨fun v => if S v then 0 else 1, fun _ => none, 0⟩ s hs
  have h1 := stFr_bd hok (hL s hs)
  have h2 := stTo_bd hok (hL s hs)
  obtain ⟨a, ha⟩ := Int.eq_ofNat_of_zero_le h1.1
  obtain ⟨b, hb⟩ := Int.eq_ofNat_of_zero_le h2.1
  have ca := hf a
  have cb := hf b
  rw [ha] at h
  rw [hb]
  simp only [flat, ha, hb, Int.toNat_natCast] at hsat
  rw [h] at ca
  simp only [flat] at ca cb
  rw [ca] at hsat
  simp only [if_true] at hsat
  have := hsat (by omega)
  rw [cb] at this
  cases h3 : spreadTo R L S M b with
  | true => rfl
  | false => rw [h3] at this; simp at this
theorem spread_up {R : List Road} {S : Int → Bool} {s v : Int} (h : S v = true) : spread R S s v = true := by
  unfold spread
  split
  · unfold updB; split <;> simp [h]
  · exact h
theorem fold_up {R : List Road} : ∀ {L : List Int} {S : Int → Bool} {v : Int}, S v = true → L.foldl (spread R) S v = true
  | [], _, _, h => h
  | s :: L, S, v, h => by rw [List.foldl_cons]; exact fold_up (spread_up h)
theorem spreadTo_up {R : List Road} {L : List Int} {S : Int → Bool} {v : Int} (h : S v = true) : ∀ k, spreadTo R L S k v = true
  | 0 => h
  | k + 1 => fold_up (spreadTo_up h k)
theorem fold_within {R : List Road} {P : Int → Prop} : ∀ {L : List Int} {S : Int → Bool}, (∀ s ∈ L, P (stFr R s) → P (stTo R s)) → (∀ v, S v = true → P v) → ∀ v, L.foldl (spread R) S v = true → P v
  | [], _, _, h, v, hv => h v hv
  | s :: L, S, hc, h, v, hv => by
    rw [List.foldl_cons] at hv
    refine fold_within (fun t ht => hc t (List.mem_cons_of_mem _ ht)) (fun u hu => ?_) v hv
    unfold spread at hu
    split at hu
    · rename_i h1
      unfold updB at hu
      split at hu
      · rename_i e; rw [e]; exact hc s List.mem_cons_self (h _ h1)
      · exact h u hu
    · exact h u hu
theorem spreadTo_within {R : List Road} {L : List Int} {P : Int → Prop} {S : Int → Bool} (hc : ∀ s ∈ L, P (stFr R s) → P (stTo R s)) (h : ∀ v, S v = true → P v) : ∀ k v, spreadTo R L S k v = true → P v
  | 0 => h
  | k + 1 => fold_within hc (spreadTo_within hc h k)
/-- what is reached from what is left is a barrier -/
theorem bar_dam {M : Nat} {R : List Road} {x : List Int} (he : excErr (M : Int) R x = 0) (hb : okB M R x = false) : (netR R).Dam M (gi x) (fun v => barSet M R x v) := by
  have h := ship_ok he
  obtain ⟨h1, h2, h3, h4⟩ := excErr_ok he
  have hok := netErr_ok h1
  have hM := hok.n1
  have hL := stepsTo_in R (shipV M R x).1 R.length
  obtain ⟨a, ha, ha2⟩ := left_source (ok_left he h) (fun hz => by rw [(okB_iff h).2 hz] at hb; simp at hb)
  obtain ⟨p, hp⟩ := h.inv.pot
  have hfl : (firstL (shipV M R x).2).length = M := by unfold firstL; rw [firstTo_length]; exact h.ll
  have hgf : ∀ v, v < M → gi (firstL (shipV M R x).2) v = if gi (shipV M R x).2 v ≤ 0 then farR else 0 := fun v hv => by
    unfold firstL
    rw [gi_firstTo (by rw [h.ll]; exact hv), if_pos (by rw [h.ll]; exact hv)]; rfl
  have hE := reachR_end hok (f := (shipV M R x).1) (first := firstL (shipV M R x).2) hfl (pot_of (stepsR R _) hp) (fun v hv => (firstL_bd (l := (shipV M R x).2) (i := v) (by rw [h.ll]; exact hv)).2)
  have hin := steps_in (netR_fine hok) (stepsR R (shipV M R x).1)
  obtain ⟨_, hn2⟩ := hE.near hin (K := 99) (by omega) (stepsR_ln hok _) (fun v hv => by
    rw [hgf v hv]
    by_cases h : gi (shipV M R x).2 v ≤ 0
    · rw [if_pos h]; exact .inl rfl
    · rw [if_neg h]; exact .inr rfl) (by unfold farR; omega)
  have hcl : ∀ s ∈ stepsTo R (shipV M R x).1 R.length, barSet M R x ((netR R).arcs.fr s) = true → barSet M R x ((netR R).arcs.to s) = true := fun s hs hf => by
    have b1 := stFr_bd hok (hL s hs)
    have b2 := stTo_bd hok (hL s hs)
    have := spread_closed hok hL (startS (shipV M R x).2 M) s hs
    rw [arcR_fr, show (((stFr R s).toNat : Nat) : Int) = stFr R s by omega] at hf
    rw [arcR_to, show (((stTo R s).toNat : Nat) : Int) = stTo R s by omega]
    exact this hf
  have hsub : ∀ v : Int, barSet M R x v = true → 0 ≤ v ∧ v < M ∧ gi (reachR M R (shipV M R x).1 (firstL (shipV M R x).2)).at_ v.toNat < farR :=
    spreadTo_within (P := fun v : Int => 0 ≤ v ∧ v < M ∧ gi (reachR M R (shipV M R x).1 (firstL (shipV M R x).2)).at_ v.toNat < farR) (fun s hs hf => by
      have b2 := stTo_bd hok (hL s hs)
      have := hn2 s hs
      rw [arcR_fr, arcR_to] at this
      exact ⟨by omega, by omega, this hf.2.2⟩) (fun v hv => by
      obtain ⟨j, hj, h5, rfl⟩ := startS_iff hv
      have := hE.le j hj
      rw [hgf j hj, if_neg (by omega)] at this
      refine ⟨by omega, by omega, ?_⟩
      rw [Int.toNat_natCast]
      unfold farR; omega) M
  have e1 := out_eq_cut (netR_fine hok) h.inv.fs (stepsR R _) (fun v => barSet M R x v) hcl
  have e2 : sumS (gi x) (fun v => barSet M R x v) M = sumS ((netR R).out (gi (shipV M R x).1)) (fun v => barSet M R x v) M + sumS (gi (shipV M R x).2) (fun v => barSet M R x v) M := by
    rw [← sumS_add]
    exact sumN_congr fun v hv => by simp only [h.inv.out v hv]
  have e3 : gi (shipV M R x).2 a ≤ sumS (gi (shipV M R x).2) (fun v => barSet M R x v) M := by
    have := sumN_term (f := fun v => if barSet M R x v then gi (shipV M R x).2 v else 0) (n := M) (fun v hv => by
      by_cases hc : barSet M R x v = true
      · rw [if_pos hc]
        have h6 := (hsub v hc).2.2
        rw [Int.toNat_natCast] at h6
        have := h.no v hv
        refine Classical.byContradiction fun hn => this (by omega) h6
      · rw [if_neg hc]; omega) ha
    rw [if_pos (show barSet M R x a = true from spreadTo_up (startS_at ha ha2) M)] at this
    exact this
  unfold NetG.Dam
  omega
/-- there is a barrier exactly if there is no flow -/
def barF (N : Int) (R : List Road) (x : List Int) : Bool := decide (excErr N R x = 0) && !okF N R x
def barL (N : Int) (R : List Road) (x : List Int) : List Int := if barF N R x then listTo (barSet N.toNat R x) N.toNat else []
theorem bar_none {N : Int} {R : List Road} {x : List Int} (h : barF N R x = false) : barL N R x = [] := by unfold barL; rw [h]; rfl
theorem bar_ok {N : Int} {R : List Road} {x : List Int} (h : barF N R x = true) : barErr N R x (barL N R x) = 0 := by
  have h' := h
  unfold barF at h'
  rw [Bool.and_eq_true, decide_eq_true_eq, Bool.not_eq_true'] at h'
  obtain ⟨he, hno⟩ := h'
  obtain ⟨M, rfl, h2, hok, h4, h5⟩ := exc_nat he
  have hob : okB M R x = false := by unfold okF at hno; simpa [he] using hno
  have e : barL (M : Int) R x = listTo (barSet M R x) M := by unfold barL; rw [h]; simp
  have hd := bar_dam he hob
  have h6 : damB M R x (flagsTo M (listTo (barSet M R x) M) (listTo (barSet M R x) M).length) = true := by
    rw [damB_iff]
    exact (dam_congr (netR_fine hok) (fun v hv => by rw [gb_flags hv, listTo_in hv])).2 hd
  rw [dam_flags hok (listTo_ok _ M), decide_eq_true_eq] at h6
  unfold barErr
  rw [e, if_neg (by omega), if_pos (listTo_ok _ M), if_neg (by omega)]
theorem barL_length {N : Int} {R : List Road} {x : List Int} : (barL N R x).length ≤ 6 := by
  unfold barL
  by_cases h : barF N R x = true
  · have h' := h
    unfold barF at h'
    rw [Bool.and_eq_true, decide_eq_true_eq] at h'
    obtain ⟨M, rfl, h2, hok, h4, h5⟩ := exc_nat h'.1
    rw [if_pos h]
    have := listTo_length (barSet M R x) M
    rw [Int.toNat_natCast]; omega
  · rw [if_neg h]; simp
end Go.Proofs.Ytbejgbflipoboaa
