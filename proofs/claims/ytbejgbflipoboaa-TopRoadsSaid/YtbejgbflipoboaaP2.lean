/- Plain words and general laws, merged: RA OwnRd RB RC RD RF GA GB GC GD GN RG. -/
import Derived.Test.YtbejgbflipoboaaP1
/- Plain words of roads: nets, excesses, flows and their costs. No program in sight. -/
namespace Go.Proofs.Ytbejgbflipoboaa
open Go.RowKit

def gi (l : List Int) (i : Nat) : Int := l[i]?.getD 0
theorem gi_def (l : List Int) (i : Nat) : l[i]?.getD 0 = gi l i := rfl
theorem gi_at {l : List Int} {i : Nat} (h : i < l.length) : gi l i = l[i] := by simp [gi, h]
theorem gi_out {l : List Int} {i : Nat} (h : l.length ≤ i) : gi l i = 0 := by simp [gi, h]
theorem gi_set (l : List Int) (i j : Nat) (v : Int) (hi : i < l.length) : gi (l.set i v) j = if i = j then v else gi l j := by
  unfold gi
  rw [List.getElem?_set]
  by_cases h : i = j
  · subst h; simp [hi]
  · simp [h]
def sumR (f : Nat → Int) : Nat → Int
  | 0 => 0
  | n + 1 => sumR f n + f n
theorem sumR_bd {f : Nat → Int} {A B : Int} {n : Nat} (h : ∀ i, i < n → A ≤ f i ∧ f i ≤ B) : ∀ k, k ≤ n → k * A ≤ sumR f k ∧ sumR f k ≤ k * B
  | 0, _ => by simp [sumR]
  | k + 1, hk => by
    have ih := sumR_bd h k (by omega)
    have := h k (by omega)
    simp only [sumR]
    have e : ∀ X : Int, ((k + 1 : Nat) : Int) * X = k * X + X := fun X => by rw [Int.natCast_add, Int.add_mul]; simp
    rw [e, e]
    omega
theorem sumR_congr {f g : Nat → Int} {n : Nat} (h : ∀ i, i < n → f i = g i) : ∀ k, k ≤ n → sumR f k = sumR g k
  | 0, _ => rfl
  | k + 1, hk => by simp only [sumR]; rw [sumR_congr h k (by omega), h k (by omega)]
theorem all_no {α : Type} {p : α → Bool} {l : List α} {k : Nat} (hk : k < l.length) (h : p l[k] = false) : l.all p = false := by
  rw [List.all_eq_false]; exact ⟨l[k], List.getElem_mem hk, by simp [h]⟩
theorem all_yes {α : Type} {p : α → Bool} {l : List α} (h : ∀ j, (hj : j < l.length) → p l[j] = true) : l.all p = true := by
  rw [List.all_eq_true]
  intro x hx
  obtain ⟨j, hj, rfl⟩ := List.getElem_of_mem hx
  exact h j hj
theorem all_at {α : Type} {p : α → Bool} {l : List α} (h : l.all p = true) {k : Nat} (hk : k < l.length) : p l[k] = true := by
  rw [List.all_eq_true] at h; exact h _ (List.getElem_mem hk)
/-! nets -/
def rdK (R : List Road) (k : Nat) : Road := R[k]?.getD default
theorem rdK_at {R : List Road} {k : Nat} (h : k < R.length) : rdK R k = R[k] := by simp [rdK, h]
def roadOk (N : Int) (r : Road) : Bool := withinB r.fr 0 (N - 1) && (withinB r.to 0 (N - 1) && (!decide (r.fr = r.to) && (withinB r.ln 0 99 && withinB r.wd 0 60)))
def netErr (N : Int) (R : List Road) : Int := if withinB N 1 6 then (if 12 < R.length then 3 else if R.all (roadOk N) then 0 else 1) else 1
structure NetOk (N : Int) (R : List Road) : Prop where
  n1 : 1 ≤ N ∧ N ≤ 6
  r12 : R.length ≤ 12
  fr : ∀ k, (h : k < R.length) → 0 ≤ R[k].fr ∧ R[k].fr ≤ N - 1
  to : ∀ k, (h : k < R.length) → 0 ≤ R[k].to ∧ R[k].to ≤ N - 1
  ne : ∀ k, (h : k < R.length) → R[k].fr ≠ R[k].to
  ln : ∀ k, (h : k < R.length) → 0 ≤ R[k].ln ∧ R[k].ln ≤ 99
  wd : ∀ k, (h : k < R.length) → 0 ≤ R[k].wd ∧ R[k].wd ≤ 60
theorem netErr_ok {N : Int} {R : List Road} (h : netErr N R = 0) : NetOk N R := by
  unfold netErr at h
  by_cases h1 : withinB N 1 6 = true
  · rw [if_pos h1] at h
    by_cases h2 : 12 < R.length
    · rw [if_pos h2] at h; simp at h
    · rw [if_neg h2] at h
      by_cases h3 : R.all (roadOk N) = true
      · have key : ∀ k, (h : k < R.length) → roadOk N R[k] = true := fun k hk => all_at h3 hk
        simp only [roadOk, Bool.and_eq_true, withinB_iff, Bool.not_eq_true', decide_eq_false_iff_not] at key
        exact ⟨withinB_iff.1 h1, by omega, fun k hk => (key k hk).1, fun k hk => (key k hk).2.1, fun k hk => (key k hk).2.2.1, fun k hk => (key k hk).2.2.2.1, fun k hk => (key k hk).2.2.2.2⟩
      · rw [if_neg h3] at h; simp at h
  · rw [if_neg h1] at h; simp at h
/-! excesses -/
def excOk (x : Int) : Bool := withinB x (-30) 30
def excErr (N : Int) (R : List Road) (x : List Int) : Int :=
  if netErr N R ≠ 0 then netErr N R else if x.all excOk = true ∧ (x.length : Int) = N then (if sumR (gi x) x.length = 0 then 0 else 5) else 1
theorem excErr_ok {N : Int} {R : List Road} {x : List Int} (h : excErr N R x = 0) : netErr N R = 0 ∧ (x.length : Int) = N ∧ (∀ j, j < x.length → -30 ≤ gi x j ∧ gi x j ≤ 30) ∧ sumR (gi x) x.length = 0 := by
  unfold excErr at h
  by_cases h1 : netErr N R = 0
  · rw [if_neg (by simpa using h1)] at h
    by_cases h2 : x.all excOk = true ∧ (x.length : Int) = N
    · rw [if_pos h2] at h
      by_cases h3 : sumR (gi x) x.length = 0
      · exact ⟨h1, h2.2, fun j hj => by rw [gi_at hj]; exact withinB_iff.1 (all_at h2.1 hj), h3⟩
      · rw [if_neg h3] at h; simp at h
    · rw [if_neg h2] at h; simp at h
  · rw [if_pos h1] at h; exact absurd h h1
/-! flows -/
def flowAt (R : List Road) (f : List Int) (k : Nat) : Bool := withinB (gi f k) 0 (rdK R k).wd
def flowB (R : List Road) (f : List Int) : Bool := decide (f.length = R.length) && (List.range f.length).all (flowAt R f)
theorem flowB_len {R : List Road} {f : List Int} (h : f.length ≠ R.length) : flowB R f = false := by simp [flowB, h]
theorem flowB_no {R : List Road} {f : List Int} {k : Nat} (hk : k < f.length) (h : flowAt R f k = false) : flowB R f = false := by
  unfold flowB
  rw [Bool.and_eq_false_iff]
  right
  rw [List.all_eq_false]
  exact ⟨k, List.mem_range.2 hk, by simp [h]⟩
theorem flowB_yes {R : List Road} {f : List Int} (h0 : f.length = R.length) (h : ∀ k, k < f.length → flowAt R f k = true) : flowB R f = true := by
  unfold flowB
  rw [Bool.and_eq_true, decide_eq_true_eq, List.all_eq_true]
  exact ⟨h0, fun k hk => h k (List.mem_range.1 hk)⟩
theorem flowB_ok {R : List Road} {f : List Int} (h : flowB R f = true) : f.length = R.length ∧ ∀ k, k < R.length → 0 ≤ gi f k ∧ gi f k ≤ (rdK R k).wd := by
  unfold flowB at h
  rw [Bool.and_eq_true, decide_eq_true_eq, List.all_eq_true] at h
  exact ⟨h.1, fun k hk => withinB_iff.1 (h.2 k (List.mem_range.2 (by omega)))⟩
/-- the list with d more at i -/
def addAt (l : List Int) (i : Nat) (d : Int) : List Int := l.set i (gi l i + d)
theorem addAt_length (l : List Int) (i : Nat) (d : Int) : (addAt l i d).length = l.length := by simp [addAt]
/-- what leaves minus what comes at each node, by the first j roads -/
def leaveTo (N : Nat) (R : List Road) (f : List Int) : Nat → List Int
  | 0 => List.replicate N 0
  | j + 1 => addAt (addAt (leaveTo N R f j) (rdK R j).fr.toNat (gi f j)) (rdK R j).to.toNat (-gi f j)
theorem leaveTo_length (N : Nat) (R : List Road) (f : List Int) : ∀ j, (leaveTo N R f j).length = N
  | 0 => by simp [leaveTo]
  | j + 1 => by simp only [leaveTo, addAt_length]; exact leaveTo_length N R f j
theorem gi_addAt {l : List Int} {i : Nat} (hi : i < l.length) (d : Int) (j : Nat) : gi (addAt l i d) j = gi l j + if i = j then d else 0 := by
  unfold addAt
  rw [gi_set _ _ _ _ hi]
  split
  · rename_i h; subst h; rfl
  · simp
theorem leaveTo_bd {N : Nat} {R : List Road} {f : List Int} (h : NetOk N R) (hf : ∀ k, k < R.length → 0 ≤ gi f k ∧ gi f k ≤ (rdK R k).wd) : ∀ j, j ≤ R.length → ∀ i, -(j * 60) ≤ gi (leaveTo N R f j) i ∧ gi (leaveTo N R f j) i ≤ j * 60
  | 0, _, i => by
    have : gi (List.replicate N 0) i = 0 := by unfold gi; rw [List.getElem?_replicate]; split <;> rfl
    simp only [leaveTo, this]; omega
  | j + 1, hj, i => by
    have ih := leaveTo_bd h hf j (by omega) i
    have h1 := hf j (by omega)
    have h2 := h.wd j (by omega)
    have h3 := h.fr j (by omega)
    have h4 := h.to j (by omega)
    rw [rdK_at (by omega)] at h1
    simp only [leaveTo]
    rw [rdK_at (by omega), gi_addAt (by rw [addAt_length, leaveTo_length]; omega), gi_addAt (by rw [leaveTo_length]; omega)]
    have h5 := h.ne j (by omega)
    split <;> split <;> omega
def costTo (R : List Road) (f : List Int) (n : Nat) : Int := sumR (fun k => (rdK R k).ln * gi f k) n
theorem costTo_bd {N : Int} {R : List Road} {f : List Int} (h : NetOk N R) (hf : ∀ k, k < R.length → 0 ≤ gi f k ∧ gi f k ≤ (rdK R k).wd) {n : Nat} (hn : n ≤ R.length) : 0 ≤ costTo R f n ∧ costTo R f n ≤ n * 5940 := by
  have := sumR_bd (f := fun k => (rdK R k).ln * gi f k) (A := 0) (B := 5940) (n := R.length) (fun i hi => by
    have h1 := hf i hi
    have h2 := h.wd i hi
    have h3 := h.ln i hi
    rw [rdK_at hi] at h1
    rw [rdK_at hi]
    refine ⟨Int.mul_nonneg h3.1 h1.1, ?_⟩
    have := Int.mul_le_mul h3.2 (show gi f i ≤ 60 by omega) h1.1 (by omega)
    omega) n hn
  unfold costTo
  omega
def flowErr (N : Int) (R : List Road) (x f : List Int) : Int :=
  if excErr N R x ≠ 0 then excErr N R x else if flowB R f then (if leaveTo N.toNat R f R.length = x then 0 else 7) else 1
def flowV (N : Int) (R : List Road) (x f : List Int) : Int := if flowErr N R x f = 0 then costTo R f R.length else 0
def leavesErr (N : Int) (R : List Road) (f : List Int) : Int := if netErr N R ≠ 0 then netErr N R else if flowB R f then 0 else 1
def leavesV (N : Int) (R : List Road) (f : List Int) : List Int := if leavesErr N R f = 0 then leaveTo N.toNat R f R.length else []
end Go.Proofs.Ytbejgbflipoboaa
/- A list of roads in a block of the call's own. -/
namespace Go.Proofs.Ytbejgbflipoboaa
open Go.RowKit

def OwnRd (W : World) (B : Nat) (v : Value) (l : List Road) : Prop := W.ownsRow B 55 4 v l.length (roadV l)
section
variable {W X : World} {B : Nat} {v : Value} {l : List Road}
theorem OwnRd.ext (h : OwnRd W B v l) (hE : Ext W X) : OwnRd X B v l := row_ext h hE
theorem OwnRd.base {B' : Nat} (h : OwnRd W B v l) (hB : B' ≤ B) : OwnRd W B' v l := row_base h hB
theorem OwnRd.roads (h : OwnRd W B v l) : ∃ a c, v = .slice a l.length c ∧ Roads W a l := by
  rcases h.2 with ⟨rfl, h0⟩ | ⟨g, cap, cur, rfl, hb, hg, h1, h2, h3, h4⟩
  · exact ⟨none, 0, by rw [h0], fun j hj => by omega⟩
  · refine ⟨some ⟨g, 0, none⟩, cap, rfl, fun j hj => ⟨g, 0, rfl, (Array.getElem?_eq_some_iff.1 hg).1, ?_⟩⟩
    obtain ⟨v0, v1, v2, v3⟩ := roadV_at l j hj
    have key : ∀ i u, (roadV l)[i]? = some u → W.cell? ⟨g, i, none⟩ = some u := fun i u hu => by
      have hi : i < l.length * 4 := by
        have := (List.getElem?_eq_some_iff.1 hu).1
        rwa [roadV_length] at this
      exact (World.ownsRow.cellAt (g := g) h i hi).trans hu
    exact ⟨by rw [Nat.zero_add]; exact key _ _ v0, by rw [Nat.zero_add]; exact key _ _ v1, by rw [Nat.zero_add]; exact key _ _ v2, by rw [Nat.zero_add]; exact key _ _ v3⟩
theorem OwnRd.cells {g c m : Nat} (h : OwnRd W B (.slice (some ⟨g, 0, none⟩) m c) l) {k : Nat} (hk : k < l.length) : W.cell? ⟨g, k * 4, none⟩ = some (.int .i64 l[k].fr) ∧ W.cell? ⟨g, k * 4 + 1, none⟩ = some (.int .i64 l[k].to) ∧ W.cell? ⟨g, k * 4 + 2, none⟩ = some (.int .i64 l[k].ln) ∧ W.cell? ⟨g, k * 4 + 3, none⟩ = some (.int .i64 l[k].wd) := by
  obtain ⟨a9, c9, e9, _⟩ := h.roads
  injection e9 with e1 e2 e3
  subst e2
  obtain ⟨v0, v1, v2, v3⟩ := roadV_at l k hk
  have key : ∀ i u, (roadV l)[i]? = some u → W.cell? ⟨g, i, none⟩ = some u := fun i u hu => by
    have hi : i < l.length * 4 := by
      have := (List.getElem?_eq_some_iff.1 hu).1
      rwa [roadV_length] at this
    exact (World.ownsRow.cellAt (g := g) h i hi).trans hu
  exact ⟨key _ _ v0, key _ _ v1, key _ _ v2, key _ _ v3⟩
theorem OwnRd.other {g' : Nat} (h : OwnRd W B v l) (hne : some g' ≠ v.ownBlock) (i : Nat) (u : Value) : OwnRd (W.setCell ⟨g', i, none⟩ u) B v l := row_set_other h hne i u
/-- a list that is not empty lies in a block -/
theorem OwnRd.form (h : OwnRd W B v l) (hl : 0 < l.length) : ∃ g c, v = .slice (some ⟨g, 0, none⟩) l.length c ∧ B ≤ g ∧ g < W.heap.size := by
  rcases h.2 with ⟨_, h0⟩ | ⟨g, cap, _, rfl, hb, hg, _⟩
  · omega
  · exact ⟨g, cap, rfl, hb, (Array.getElem?_eq_some_iff.1 hg).1⟩
theorem OwnRd.froz {g c n : Nat} (h : OwnRd W B (.slice (some ⟨g, 0, none⟩) n c) l) (i : Nat) : W.frozen? ⟨g, i, none⟩ = false := by
  obtain ⟨a, c2, e, _⟩ := h.roads
  injection e with e1 e2 e3
  subst e2
  exact World.ownsRow.frozenAt h i
theorem roadV_set4 : ∀ (l : List Road) (k : Nat) (hk : k < l.length) (j : Nat) (n : Int) (r : Road), ([Value.int .i64 l[k].fr, .int .i64 l[k].to, .int .i64 l[k].ln, .int .i64 l[k].wd].set j (.int .i64 n) = [.int .i64 r.fr, .int .i64 r.to, .int .i64 r.ln, .int .i64 r.wd]) → j < 4 → (roadV l).set (k * 4 + j) (.int .i64 n) = roadV (l.set k r)
  | s :: l, 0, _, j, n, r, h, hj => by
    have e : ∀ (t : Road) (m : List Road), roadV (t :: m) = [.int .i64 t.fr, .int .i64 t.to, .int .i64 t.ln, .int .i64 t.wd] ++ roadV m := fun t m => by simp [roadV]
    rw [List.set_cons_zero, e, e, List.set_append_left _ _ (by simp; omega)]
    simp only [List.getElem_cons_zero] at h
    rw [Nat.zero_mul, Nat.zero_add, h]
  | s :: l, k + 1, hk, j, n, r, h, hj => by
    have h2 := roadV_set4 l k (by simpa using hk) j n r (by simpa using h) hj
    have e : ∀ (t : Road) (m : List Road), roadV (t :: m) = [.int .i64 t.fr, .int .i64 t.to, .int .i64 t.ln, .int .i64 t.wd] ++ roadV m := fun t m => by simp [roadV]
    rw [List.set_cons_succ, e, e, List.set_append_right _ _ (by simp; omega), show (k + 1) * 4 + j - [Value.int .i64 s.fr, .int .i64 s.to, .int .i64 s.ln, .int .i64 s.wd].length = k * 4 + j by simp; omega, h2]
theorem OwnRd.store {g c m : Nat} (h : OwnRd W B (.slice (some ⟨g, 0, none⟩) m c) l) {k : Nat} (hk : k < l.length) (j : Nat) (hj : j < 4) (n : Int) (r : Road) (hr : [Value.int .i64 l[k].fr, .int .i64 l[k].to, .int .i64 l[k].ln, .int .i64 l[k].wd].set j (.int .i64 n) = [.int .i64 r.fr, .int .i64 r.to, .int .i64 r.ln, .int .i64 r.wd]) : OwnRd (W.setCell ⟨g, k * 4 + j, none⟩ (.int .i64 n)) B (.slice (some ⟨g, 0, none⟩) m c) (l.set k r) := by
  obtain ⟨a9, c9, e9, _⟩ := h.roads
  injection e9 with e1 e2 e3
  subst e2
  have hst := (World.ownsRow.stored h (k * 4 + j) (.int .i64 n)).1
  rw [roadV_set4 l k hk j n r hr hj] at hst
  unfold OwnRd
  rw [List.length_set]
  exact hst
end
end Go.Proofs.Ytbejgbflipoboaa
/- Plain words of roads: steps along roads and back, what a flow allows. No program in sight. -/
namespace Go.Proofs.Ytbejgbflipoboaa
open Go.RowKit

/-- the number of the road of a step k + 1 or -(k + 1) -/
def stepNo (s : Int) : Nat := (max s (-s) - 1).toNat
def StepIn (n : Nat) (s : Int) : Prop := 1 ≤ max s (-s) ∧ max s (-s) ≤ n
theorem stepNo_lt {n : Nat} {s : Int} (h : StepIn n s) : stepNo s < n := by unfold stepNo; have := h.1; have := h.2; omega
theorem stepNo_cast {n : Nat} {s : Int} (h : StepIn n s) : ((stepNo s : Nat) : Int) = max s (-s) - 1 := by unfold stepNo; have := h.1; omega
def stFr (R : List Road) (s : Int) : Int := if s < 0 then (rdK R (stepNo s)).to else (rdK R (stepNo s)).fr
def stTo (R : List Road) (s : Int) : Int := if s < 0 then (rdK R (stepNo s)).fr else (rdK R (stepNo s)).to
def stLn (R : List Road) (s : Int) : Int := if s < 0 then -(rdK R (stepNo s)).ln else (rdK R (stepNo s)).ln
theorem stFr_bd {N : Int} {R : List Road} (h : NetOk N R) {s : Int} (hs : StepIn R.length s) : 0 ≤ stFr R s ∧ stFr R s ≤ N - 1 := by
  have hk := stepNo_lt hs
  unfold stFr; rw [rdK_at hk]
  have h1 := h.fr _ hk
  have h2 := h.to _ hk
  split <;> omega
theorem stTo_bd {N : Int} {R : List Road} (h : NetOk N R) {s : Int} (hs : StepIn R.length s) : 0 ≤ stTo R s ∧ stTo R s ≤ N - 1 := by
  have hk := stepNo_lt hs
  unfold stTo; rw [rdK_at hk]
  have h1 := h.fr _ hk
  have h2 := h.to _ hk
  split <;> omega
theorem stLn_bd {N : Int} {R : List Road} (h : NetOk N R) {s : Int} (hs : StepIn R.length s) : -99 ≤ stLn R s ∧ stLn R s ≤ 99 := by
  have hk := stepNo_lt hs
  unfold stLn; rw [rdK_at hk]
  have h1 := h.ln _ hk
  split <;> omega
/-- the steps that a flow allows on the first k roads -/
def stepsTo (R : List Road) (f : List Int) : Nat → List Int
  | 0 => []
  | k + 1 => (stepsTo R f k ++ if gi f k < (rdK R k).wd then [(k : Int) + 1] else []) ++ if 0 < gi f k then [-(k : Int) - 1] else []
theorem stepsTo_in (R : List Road) (f : List Int) : ∀ k, ∀ s ∈ stepsTo R f k, StepIn k s
  | 0, s, h => by simp [stepsTo] at h
  | k + 1, s, h => by
    have mono : StepIn k s → StepIn (k + 1) s := fun h => ⟨h.1, by have := h.2; omega⟩
    simp only [stepsTo, List.mem_append] at h
    rcases h with (h | h) | h
    · exact mono (stepsTo_in R f k s h)
    · split at h
      · simp at h; subst h; constructor <;> omega
      · simp at h
    · split at h
      · simp at h; subst h; constructor <;> omega
      · simp at h
theorem stepsTo_length (R : List Road) (f : List Int) : ∀ k, (stepsTo R f k).length ≤ 2 * k
  | 0 => by simp [stepsTo]
  | k + 1 => by
    have ih := stepsTo_length R f k
    simp only [stepsTo, List.length_append]
    split <;> split <;> simp <;> omega
/-- the flow changed by 1 along a step -/
def turnF (f : List Int) (s : Int) : List Int := if s < 0 then addAt f (stepNo s) (-1) else addAt f (stepNo s) 1
theorem turnF_length (f : List Int) (s : Int) : (turnF f s).length = f.length := by unfold turnF; split <;> exact addAt_length _ _ _
/-! how far: what 'reach' does -/
def farR : Int := 1099511627776
structure RS where
  at_ : List Int
  by_ : List Int
  last : Int
def relax (R : List Road) (st : RS) (s : Int) : RS :=
  if gi st.at_ (stFr R s).toNat < farR ∧ gi st.at_ (stFr R s).toNat + stLn R s < gi st.at_ (stTo R s).toNat then
    ⟨st.at_.set (stTo R s).toNat (gi st.at_ (stFr R s).toNat + stLn R s), st.by_.set (stTo R s).toNat s, stTo R s⟩ else st
def roundR (R : List Road) (L : List Int) (st : RS) : RS := L.foldl (relax R) { st with last := -1 }
def reachTo (R : List Road) (L : List Int) (st : RS) : Nat → RS
  | 0 => st
  | n + 1 => roundR R L (reachTo R L st n)
def reachR (N : Nat) (R : List Road) (f first : List Int) : RS := reachTo R (stepsTo R f R.length) ⟨first, List.replicate N 0, 0⟩ N
end Go.Proofs.Ytbejgbflipoboaa
/- Plain words of roads: how far the nodes are along steps; bounds. No program in sight. -/
namespace Go.Proofs.Ytbejgbflipoboaa
open Go.RowKit

structure RsOk (M c : Nat) (st : RS) : Prop where
  la : st.at_.length = M
  lb : st.by_.length = M
  bd : ∀ i, i < M → -((c : Int) * 99) ≤ gi st.at_ i ∧ gi st.at_ i ≤ 1099511627776
theorem RsOk.mono {M c c' : Nat} {st : RS} (h : RsOk M c st) (hc : c ≤ c') : RsOk M c' st := ⟨h.la, h.lb, fun i hi => by have := h.bd i hi; omega⟩
theorem relax_ok {M c : Nat} {R : List Road} {st : RS} {s : Int} (hok : NetOk (M : Int) R) (hs : StepIn R.length s) (h : RsOk M c st) : RsOk M (c + 1) (relax R st s) := by
  unfold relax
  split
  · rename_i hc
    have hf := stFr_bd hok hs
    have ht := stTo_bd hok hs
    have hl := stLn_bd hok hs
    have h1 := h.bd (stFr R s).toNat (by omega)
    refine ⟨by simp [h.la], by simp [h.lb], fun i hi => ?_⟩
    show -(((c + 1 : Nat) : Int) * 99) ≤ gi (st.at_.set _ _) i ∧ gi (st.at_.set _ _) i ≤ _
    rw [gi_set _ _ _ _ (by rw [h.la]; omega)]
    have h2 := h.bd i hi
    have h3 := h.bd (stTo R s).toNat (by omega)
    split <;> omega
  · exact h.mono (by omega)
theorem fold_ok {M : Nat} {R : List Road} {L : List Int} (hok : NetOk (M : Int) R) (hL : ∀ s ∈ L, StepIn R.length s) {c : Nat} {st : RS} (h : RsOk M c st) : ∀ q, q ≤ L.length → RsOk M (c + q) ((L.take q).foldl (relax R) st)
  | 0, _ => h
  | q + 1, hq => by
    rw [List.take_succ_eq_append_getElem (by omega), List.foldl_append]
    exact relax_ok hok (hL _ (List.getElem_mem _)) (fold_ok hok hL h q (by omega))
theorem last_ok {M c : Nat} {st : RS} (h : RsOk M c st) (v : Int) : RsOk M c { st with last := v } := ⟨h.la, h.lb, h.bd⟩
theorem reachTo_ok {M : Nat} {R : List Road} {L : List Int} (hok : NetOk (M : Int) R) (hL : ∀ s ∈ L, StepIn R.length s) (hl : L.length ≤ 24) {st : RS} (h : RsOk M 0 st) : ∀ j, RsOk M (j * 24) (reachTo R L st j)
  | 0 => by rw [Nat.zero_mul]; exact h
  | j + 1 => by
    have h1 := fold_ok hok hL (last_ok (reachTo_ok hok hL hl h j) (-1)) L.length (Nat.le_refl _)
    rw [List.take_length] at h1
    exact h1.mono (by omega)
/-- the state within a round: q steps are done -/
def inRound (R : List Road) (L : List Int) (st : RS) (q : Nat) : RS := (L.take q).foldl (relax R) { st with last := -1 }
theorem inRound_zero (R : List Road) (L : List Int) (st : RS) : inRound R L st 0 = { st with last := -1 } := rfl
theorem inRound_succ {R : List Road} {L : List Int} {q : Nat} (hq : q < L.length) (st : RS) : inRound R L st (q + 1) = relax R (inRound R L st q) L[q] := by
  unfold inRound; rw [List.take_succ_eq_append_getElem hq, List.foldl_append]; rfl
theorem inRound_all (R : List Road) (L : List Int) (st : RS) : inRound R L st L.length = roundR R L st := by unfold inRound roundR; rw [List.take_length]
theorem relax_no1 {R : List Road} {st : RS} {s : Int} (h : ¬ gi st.at_ (stFr R s).toNat < 1099511627776) : relax R st s = st := by
  unfold relax; rw [if_neg (fun h2 => h h2.1)]
theorem relax_no2 {R : List Road} {st : RS} {s : Int} (h : ¬ gi st.at_ (stFr R s).toNat + stLn R s < gi st.at_ (stTo R s).toNat) : relax R st s = st := by
  unfold relax; rw [if_neg (fun h2 => h h2.2)]
theorem relax_yes {R : List Road} {st : RS} {s : Int} (h1 : gi st.at_ (stFr R s).toNat < 1099511627776) (h2 : gi st.at_ (stFr R s).toNat + stLn R s < gi st.at_ (stTo R s).toNat) :
    relax R st s = ⟨st.at_.set (stTo R s).toNat (gi st.at_ (stFr R s).toNat + stLn R s), st.by_.set (stTo R s).toNat s, stTo R s⟩ := by
  unfold relax; rw [if_pos ⟨h1, h2⟩]
end Go.Proofs.Ytbejgbflipoboaa
/- Plain words of roads: what 'ship' does, with fuel. No program in sight. -/
namespace Go.Proofs.Ytbejgbflipoboaa
open Go.RowKit

/-- where the ways may begin: 0 where something is left, far elsewhere; the first k are told -/
def firstTo (l : List Int) (k : Nat) : List Int := (List.range l.length).map fun i => if i < k then (if gi l i ≤ 0 then 1099511627776 else 0) else 0
theorem firstTo_length (l : List Int) (k : Nat) : (firstTo l k).length = l.length := by simp [firstTo]
theorem firstTo_zero (l : List Int) : firstTo l 0 = List.replicate l.length 0 := by
  unfold firstTo; rw [List.eq_replicate_iff]; simp
theorem gi_firstTo {l : List Int} {k i : Nat} (hi : i < l.length) : gi (firstTo l k) i = if i < k then (if gi l i ≤ 0 then 1099511627776 else 0) else 0 := by simp [gi, firstTo, hi]
theorem firstTo_far {l : List Int} {k : Nat} (h : gi l k ≤ 0) : (firstTo l k).set k 1099511627776 = firstTo l (k + 1) := List.ext_getElem (by simp [firstTo]) fun j h1 h2 => by
  rw [List.getElem_set]
  simp only [firstTo, List.getElem_map, List.getElem_range]
  by_cases e : k = j
  · subst e; rw [if_pos rfl, if_pos (by omega), if_pos h]
  · rw [if_neg e]
    by_cases h : j < k
    · rw [if_pos h, if_pos (show j < k + 1 by omega)]
    · rw [if_neg h, if_neg (show ¬ j < k + 1 by omega)]
theorem firstTo_near {l : List Int} {k : Nat} (h : ¬ gi l k ≤ 0) : firstTo l (k + 1) = firstTo l k := List.ext_getElem (by simp [firstTo]) fun j h1 h2 => by
  simp only [firstTo, List.getElem_map, List.getElem_range]
  by_cases e : j = k
  · subst e; rw [if_pos (show j < j + 1 by omega), if_neg h, if_neg (show ¬ j < j by omega)]
  · by_cases h : j < k
    · rw [if_pos h, if_pos (show j < k + 1 by omega)]
    · rw [if_neg h, if_neg (show ¬ j < k + 1 by omega)]
def firstL (l : List Int) : List Int := firstTo l l.length
theorem firstL_bd {l : List Int} {i : Nat} (hi : i < l.length) : 0 ≤ gi (firstL l) i ∧ gi (firstL l) i ≤ 1099511627776 := by
  unfold firstL; rw [gi_firstTo hi, if_pos hi]; split <;> omega
/-- the nearest node that lacks some, of the first k -/
def bestTo (l at_ : List Int) : Nat → Int
  | 0 => -1
  | k + 1 => if gi l k < 0 ∧ gi at_ k < 1099511627776 ∧ (bestTo l at_ k < 0 ∨ gi at_ k < gi at_ (bestTo l at_ k).toNat) then (k : Int) else bestTo l at_ k
theorem bestTo_bd (l at_ : List Int) : ∀ k, -1 ≤ bestTo l at_ k ∧ bestTo l at_ k < k
  | 0 => by simp [bestTo]
  | k + 1 => by
    have ih := bestTo_bd l at_ k
    simp only [bestTo]
    split <;> omega
/-- the chain of steps back from a node to where it begins: the flow changed along it, and the beginning -/
def chain (R : List Road) (by_ : List Int) : Nat → Nat → List Int → Option (List Int × Nat)
  | 0, _, _ => none
  | F + 1, i, f => if gi by_ i = 0 then some (f, i) else chain R by_ F (stFr R (gi by_ i)).toNat (turnF f (gi by_ i))
/-- one unit more, with what is left -/
def shipF (N : Nat) (R : List Road) : Nat → List Int → List Int → Option (List Int × List Int)
  | 0, _, _ => none
  | F + 1, f, l =>
    if bestTo l (reachR N R f (firstL l)).at_ N < 0 then some (f, l) else
      match chain R (reachR N R f (firstL l)).by_ 20 (bestTo l (reachR N R f (firstL l)).at_ N).toNat f with
      | none => none
      | some (f', i) => shipF N R F f' (addAt (addAt l (bestTo l (reachR N R f (firstL l)).at_ N).toNat 1) i (-1))
/-- the net of the document's first example -/
def net1 : List Road := [⟨0, 1, 1, 2⟩, ⟨1, 2, 1, 2⟩, ⟨0, 2, 5, 9⟩]
theorem net1_ok : netErr 3 net1 = 0 := by decide
theorem net1_ship : shipF 3 net1 10 [0, 0, 0] [3, 0, -3] = some ([2, 2, 1], [0, 0, 0]) := by decide +kernel
theorem net1_flow : flowErr 3 net1 [3, 0, -3] [2, 2, 1] = 0 ∧ flowV 3 net1 [3, 0, -3] [2, 2, 1] = 9 := by decide
end Go.Proofs.Ytbejgbflipoboaa
/- Plain words of roads: the fuel that 'ship' and its chains want: measures of their loops. No program in sight. -/
namespace Go.Proofs.Ytbejgbflipoboaa
open Go.RowKit

/-- the least number from s on, of n + 1, that has p -/
def leastF (p : Nat → Bool) : Nat → Nat → Nat
  | s, 0 => s
  | s, n + 1 => if p s then s else leastF p (s + 1) n
theorem leastF_spec {p : Nat → Bool} : ∀ (n s m : Nat), s ≤ m → m ≤ s + n → p m = true → p (leastF p s n) = true ∧ leastF p s n ≤ m
  | 0, s, m, h1, h2, h3 => by
    obtain rfl : s = m := by omega
    exact ⟨h3, Nat.le_refl _⟩
  | n + 1, s, m, h1, h2, h3 => by
    unfold leastF
    by_cases h : p s = true
    · rw [if_pos h]; exact ⟨h, h1⟩
    · rw [if_neg h]
      have : s ≠ m := fun e => h (by rw [e]; exact h3)
      exact leastF_spec n (s + 1) m (by omega) (by omega) h3
theorem ship_step {N : Nat} {R : List Road} {F : Nat} {f l : List Int} {r : List Int × List Int} (h : shipF N R F f l = some r) :
    ∃ F', F = F' + 1 ∧ ((bestTo l (reachR N R f (firstL l)).at_ N < 0 ∧ r = (f, l)) ∨
      (¬ bestTo l (reachR N R f (firstL l)).at_ N < 0 ∧ ∃ f' i, chain R (reachR N R f (firstL l)).by_ 20 (bestTo l (reachR N R f (firstL l)).at_ N).toNat f = some (f', i) ∧
        shipF N R F' f' (addAt (addAt l (bestTo l (reachR N R f (firstL l)).at_ N).toNat 1) i (-1)) = some r)) := by
  cases F with
  | zero => simp [shipF] at h
  | succ F' =>
    refine ⟨F', rfl, ?_⟩
    rw [shipF] at h
    by_cases hb : bestTo l (reachR N R f (firstL l)).at_ N < 0
    · rw [if_pos hb] at h
      exact .inl ⟨hb, (Option.some.inj h).symm⟩
    · rw [if_neg hb] at h
      cases hc : chain R (reachR N R f (firstL l)).by_ 20 (bestTo l (reachR N R f (firstL l)).at_ N).toNat f with
      | none => rw [hc] at h; simp at h
      | some q =>
        obtain ⟨f', i⟩ := q
        rw [hc] at h
        exact .inr ⟨hb, f', i, rfl, h⟩
theorem best_no1 {l a : List Int} {k : Nat} (h : ¬ gi l k < 0) : bestTo l a (k + 1) = bestTo l a k := by simp only [bestTo]; rw [if_neg (fun h2 => h h2.1)]
theorem best_no2 {l a : List Int} {k : Nat} (h : ¬ gi a k < 1099511627776) : bestTo l a (k + 1) = bestTo l a k := by simp only [bestTo]; rw [if_neg (fun h2 => h h2.2.1)]
theorem best_yes1 {l a : List Int} {k : Nat} (h1 : gi l k < 0) (h2 : gi a k < 1099511627776) (h3 : bestTo l a k < 0) : bestTo l a (k + 1) = k := by simp only [bestTo]; rw [if_pos ⟨h1, h2, .inl h3⟩]
theorem best_yes2 {l a : List Int} {k p : Nat} (h1 : gi l k < 0) (h2 : gi a k < 1099511627776) (hp : bestTo l a k = p) (h3 : gi a k < gi a p) : bestTo l a (k + 1) = k := by
  simp only [bestTo]; rw [if_pos ⟨h1, h2, .inr (by rw [hp]; exact h3)⟩]
theorem best_no3 {l a : List Int} {k p : Nat} (hp : bestTo l a k = p) (h : ¬ gi a k < gi a p) : bestTo l a (k + 1) = p := by
  simp only [bestTo]; rw [if_neg, hp]
  rintro ⟨_, _, h2 | h2⟩
  · omega
  · rw [hp] at h2; exact h h2
/-- how much fuel ship wants, if it is at most K -/
def fuelOf (N : Nat) (R : List Road) (K : Nat) (f l : List Int) : Nat := leastF (fun F => (shipF N R F f l).isSome) 0 K
theorem fuelOf_dec {N : Nat} {R : List Road} {F K : Nat} {f l f' : List Int} {i : Nat} {r : List Int × List Int} (h : shipF N R F f l = some r) (hF : F ≤ K) (hb : ¬ bestTo l (reachR N R f (firstL l)).at_ N < 0)
    (hc : chain R (reachR N R f (firstL l)).by_ 20 (bestTo l (reachR N R f (firstL l)).at_ N).toNat f = some (f', i)) :
    fuelOf N R K f' (addAt (addAt l (bestTo l (reachR N R f (firstL l)).at_ N).toNat 1) i (-1)) < fuelOf N R K f l := by
  obtain ⟨h1, h2⟩ := leastF_spec (p := fun F => (shipF N R F f l).isSome) K 0 F (by omega) (by omega) (by simp [h])
  obtain ⟨r2, hr2⟩ := Option.isSome_iff_exists.1 h1
  obtain ⟨m, hm, hq⟩ := ship_step hr2
  rcases hq with ⟨hb2, _⟩ | ⟨_, f2, i2, hc2, hs2⟩
  · exact absurd hb2 hb
  · rw [hc] at hc2
    obtain ⟨rfl, rfl⟩ := Prod.mk.inj (Option.some.inj hc2)
    obtain ⟨_, h4⟩ := leastF_spec (p := fun F => (shipF N R F f' (addAt (addAt l (bestTo l (reachR N R f (firstL l)).at_ N).toNat 1) i (-1))).isSome) K 0 m (by omega) (by omega) (by simp [hs2])
    unfold fuelOf
    omega
theorem chain_step {R : List Road} {by_ : List Int} {F i : Nat} {f : List Int} {q : List Int × Nat} (h : chain R by_ F i f = some q) :
    ∃ F', F = F' + 1 ∧ ((gi by_ i = 0 ∧ q = (f, i)) ∨ (gi by_ i ≠ 0 ∧ chain R by_ F' (stFr R (gi by_ i)).toNat (turnF f (gi by_ i)) = some q)) := by
  cases F with
  | zero => simp [chain] at h
  | succ F' =>
    refine ⟨F', rfl, ?_⟩
    rw [chain] at h
    by_cases hb : gi by_ i = 0
    · rw [if_pos hb] at h; exact .inl ⟨hb, (Option.some.inj h).symm⟩
    · rw [if_neg hb] at h; exact .inr ⟨hb, h⟩
theorem chain_free (R : List Road) (by_ : List Int) : ∀ (F i : Nat) (f g : List Int), (chain R by_ F i f).isSome = (chain R by_ F i g).isSome
  | 0, _, _, _ => rfl
  | F + 1, i, f, g => by
    rw [chain, chain]
    split
    · rfl
    · exact chain_free R by_ F _ _ _
/-! bounds along a chain -/
theorem gi_set' (l : List Int) (i j : Nat) (v : Int) : gi (l.set i v) j = if i = j ∧ i < l.length then v else gi l j := by
  by_cases hi : i < l.length
  · rw [gi_set _ _ _ _ hi]
    by_cases h : i = j
    · rw [if_pos h, if_pos ⟨h, hi⟩]
    · rw [if_neg h, if_neg (fun h2 => h h2.1)]
  · rw [if_neg (fun h2 => hi h2.2)]
    unfold gi; rw [List.getElem?_set]
    by_cases h : i = j
    · subst h; rw [if_pos rfl, if_neg hi, List.getElem?_eq_none (by omega)]
    · rw [if_neg h]
theorem gi_addAt' (l : List Int) (i j : Nat) (d : Int) : gi (addAt l i d) j = gi l j ∨ gi (addAt l i d) j = gi l j + d := by
  unfold addAt; rw [gi_set']
  split
  · rename_i h; obtain ⟨rfl, _⟩ := h; exact .inr rfl
  · exact .inl rfl
theorem addAt_bd (l : List Int) (p i j : Nat) : gi l j - 1 ≤ gi (addAt (addAt l p 1) i (-1)) j ∧ gi (addAt (addAt l p 1) i (-1)) j ≤ gi l j + 1 := by
  have h1 := gi_addAt' l p j 1
  have h2 := gi_addAt' (addAt l p 1) i j (-1)
  omega
theorem turnF_bd (f : List Int) (s : Int) (j : Nat) : gi f j - 1 ≤ gi (turnF f s) j ∧ gi (turnF f s) j ≤ gi f j + 1 := by
  unfold turnF addAt
  split <;> rw [gi_set'] <;> split <;> (try (rename_i h; obtain ⟨rfl, _⟩ := h)) <;> omega
theorem chain_bd {R : List Road} {by_ : List Int} : ∀ {F i : Nat} {f f' : List Int} {i' : Nat}, chain R by_ F i f = some (f', i') → f'.length = f.length ∧ ∀ j, gi f j - F ≤ gi f' j ∧ gi f' j ≤ gi f j + F
  | 0, _, _, _, _, h => by simp [chain] at h
  | F + 1, i, f, f', i', h => by
    rw [chain] at h
    by_cases hb : gi by_ i = 0
    · rw [if_pos hb] at h
      obtain ⟨rfl, _⟩ := Prod.mk.inj (Option.some.inj h)
      exact ⟨rfl, fun j => by omega⟩
    · rw [if_neg hb] at h
      obtain ⟨h1, h2⟩ := chain_bd h
      refine ⟨by rw [h1, turnF_length], fun j => ?_⟩
      have := h2 j
      have := turnF_bd f (gi by_ i) j
      omega
theorem chain_in {N : Nat} {R : List Road} {by_ : List Int} (hok : NetOk (N : Int) R) (hby : ∀ i, i < N → gi by_ i = 0 ∨ StepIn R.length (gi by_ i)) : ∀ {F i : Nat} {f f' : List Int} {i' : Nat}, i < N → chain R by_ F i f = some (f', i') → i' < N
  | 0, _, _, _, _, _, h => by simp [chain] at h
  | F + 1, i, f, f', i', hi, h => by
    rw [chain] at h
    by_cases hb : gi by_ i = 0
    · rw [if_pos hb] at h
      obtain ⟨_, rfl⟩ := Prod.mk.inj (Option.some.inj h)
      exact hi
    · rw [if_neg hb] at h
      have hs := (hby i hi).resolve_left hb
      have := stFr_bd hok hs
      exact chain_in hok hby (by omega) h
/-! the steps by which nodes are reached -/
def ByOk (M n : Nat) (st : RS) : Prop := ∀ i, i < M → gi st.by_ i = 0 ∨ StepIn n (gi st.by_ i)
theorem relax_by {M : Nat} {R : List Road} {st : RS} {s : Int} (hs : StepIn R.length s) (h : ByOk M R.length st) : ByOk M R.length (relax R st s) := by
  unfold relax
  split
  · intro i hi
    show gi (st.by_.set _ _) i = 0 ∨ StepIn _ (gi (st.by_.set _ _) i)
    rw [gi_set']
    split
    · exact .inr hs
    · exact h i hi
  · exact h
theorem fold_by {M : Nat} {R : List Road} : ∀ {L : List Int} {st : RS}, (∀ s ∈ L, StepIn R.length s) → ByOk M R.length st → ByOk M R.length (L.foldl (relax R) st)
  | [], _, _, h => h
  | s :: L, st, hL, h => by
    rw [List.foldl_cons]
    exact fold_by (L := L) (fun x hx => hL x (List.mem_cons_of_mem _ hx)) (relax_by (hL s List.mem_cons_self) h)
theorem reachTo_by {M : Nat} {R : List Road} {L : List Int} (hL : ∀ s ∈ L, StepIn R.length s) {st : RS} (h : ByOk M R.length st) : ∀ j, ByOk M R.length (reachTo R L st j)
  | 0 => h
  | j + 1 => fold_by hL (show ByOk M R.length { reachTo R L st j with last := -1 } from reachTo_by hL h j)
theorem reachR_by (M : Nat) (R : List Road) (f first : List Int) : ByOk M R.length (reachR M R f first) :=
  reachTo_by (stepsTo_in R f R.length) (fun i _ => .inl (by show gi (List.replicate M 0) i = 0; unfold gi; rw [List.getElem?_replicate]; split <;> rfl)) M
/-- how long the chain from a node is, if at most K -/
def chainLen (R : List Road) (by_ : List Int) (K i : Nat) : Nat := leastF (fun F => (chain R by_ F i []).isSome) 0 K
theorem chainLen_dec {R : List Road} {by_ : List Int} {F K i : Nat} {f : List Int} {q : List Int × Nat} (h : chain R by_ F i f = some q) (hF : F ≤ K) (hb : gi by_ i ≠ 0) : chainLen R by_ K (stFr R (gi by_ i)).toNat < chainLen R by_ K i := by
  obtain ⟨h1, h2⟩ := leastF_spec (p := fun F => (chain R by_ F i []).isSome) K 0 F (by omega) (by omega) (by rw [chain_free R by_ F i [] f, h]; rfl)
  obtain ⟨r2, hr2⟩ := Option.isSome_iff_exists.1 h1
  obtain ⟨m, hm, hq⟩ := chain_step hr2
  rcases hq with ⟨hb2, _⟩ | ⟨_, hs2⟩
  · exact absurd hb2 hb
  · obtain ⟨_, h4⟩ := leastF_spec (p := fun F => (chain R by_ F (stFr R (gi by_ i)).toNat []).isSome) K 0 m (by omega) (by omega) (by rw [chain_free R by_ m _ [] (turnF [] (gi by_ i)), hs2]; rfl)
    unfold chainLen
    omega
end Go.Proofs.Ytbejgbflipoboaa
/- Plain words of labels along arcs: what rounds of relaxing do. No program in sight. -/
namespace Go.Proofs.Ytbejgbflipoboaa

structure Arcs (α : Type) where
  fr : α → Nat
  to : α → Nat
  ln : α → Int
structure Lb (α : Type) where
  at_ : Nat → Int
  by_ : Nat → Option α
  last : Int
def upd {β : Type} (f : Nat → β) (i : Nat) (v : β) : Nat → β := fun j => if j = i then v else f j
theorem upd_same {β : Type} (f : Nat → β) (i : Nat) (v : β) : upd f i v i = v := by simp [upd]
theorem upd_ne {β : Type} {f : Nat → β} {i j : Nat} {v : β} (h : j ≠ i) : upd f i v j = f j := by simp [upd, h]
def Arcs.Cond {α : Type} (A : Arcs α) (far : Int) (st : Lb α) (s : α) : Prop := st.at_ (A.fr s) < far ∧ st.at_ (A.fr s) + A.ln s < st.at_ (A.to s)
instance {α : Type} (A : Arcs α) (far : Int) (st : Lb α) (s : α) : Decidable (A.Cond far st s) := by unfold Arcs.Cond; exact inferInstance
def Arcs.put {α : Type} (A : Arcs α) (st : Lb α) (s : α) : Lb α := ⟨upd st.at_ (A.to s) (st.at_ (A.fr s) + A.ln s), upd st.by_ (A.to s) (some s), A.to s⟩
def Arcs.relax {α : Type} (A : Arcs α) (far : Int) (st : Lb α) (s : α) : Lb α := if A.Cond far st s then A.put st s else st
def Arcs.round {α : Type} (A : Arcs α) (far : Int) (L : List α) (st : Lb α) : Lb α := L.foldl (A.relax far) { st with last := -1 }
def Arcs.reach {α : Type} (A : Arcs α) (far : Int) (L : List α) (st : Lb α) : Nat → Lb α
  | 0 => st
  | n + 1 => A.round far L (A.reach far L st n)
def Arcs.In {α : Type} (A : Arcs α) (N : Nat) (L : List α) : Prop := ∀ s ∈ L, A.fr s < N ∧ A.to s < N
def Arcs.Pot {α : Type} (A : Arcs α) (L : List α) (p : Nat → Int) : Prop := ∀ s ∈ L, p (A.to s) ≤ A.ln s + p (A.fr s)
def Arcs.Sat {α : Type} (A : Arcs α) (far : Int) (L : List α) (at_ : Nat → Int) : Prop := ∀ s ∈ L, at_ (A.fr s) < far → at_ (A.to s) ≤ at_ (A.fr s) + A.ln s
section
variable {α : Type} {A : Arcs α} {far : Int}
theorem fold_inv {L : List α} (I : Lb α → Prop) (h : ∀ st s, s ∈ L → I st → I (A.relax far st s)) : ∀ {st}, I st → I (L.foldl (A.relax far) st) := by
  induction L with
  | nil => intro st h1; exact h1
  | cons s l ih =>
    intro st h1
    rw [List.foldl_cons]
    exact ih (fun st t ht => h st t (List.mem_cons_of_mem _ ht)) (h st s List.mem_cons_self h1)
theorem fold_done {L : List α} (I : Lb α → Prop) (D : α → Lb α → Prop) (h : ∀ st s, s ∈ L → I st → I (A.relax far st s) ∧ D s (A.relax far st s)) (h2 : ∀ st s t, s ∈ L → t ∈ L → I st → D t st → D t (A.relax far st s)) :
    ∀ {st}, I st → I (L.foldl (A.relax far) st) ∧ ∀ s ∈ L, D s (L.foldl (A.relax far) st) := by
  have key : ∀ (l done : List α), (∀ s ∈ l, s ∈ L) → (∀ s ∈ done, s ∈ L) → ∀ st, I st → (∀ s ∈ done, D s st) → I (l.foldl (A.relax far) st) ∧ ∀ s, s ∈ done ∨ s ∈ l → D s (l.foldl (A.relax far) st) := by
    intro l
    induction l with
    | nil => intro done _ _ st h3 h4; exact ⟨h3, fun s hs => by rcases hs with hs | hs; exact h4 s hs; simp at hs⟩
    | cons s l ih =>
      intro done hl hd st h3 h4
      have hs := hl s List.mem_cons_self
      obtain ⟨h5, h6⟩ := h st s hs h3
      obtain ⟨h7, h8⟩ := ih (s :: done) (fun t ht => hl t (List.mem_cons_of_mem _ ht)) (fun t ht => by
        rcases List.mem_cons.1 ht with rfl | ht
        · exact hs
        · exact hd t ht) (A.relax far st s) h5 (fun t ht => by
        rcases List.mem_cons.1 ht with rfl | ht
        · exact h6
        · exact h2 st s t hs (hd t ht) h3 (h4 t ht))
      refine ⟨h7, fun t ht => h8 t ?_⟩
      rcases ht with ht | ht
      · exact .inl (List.mem_cons_of_mem _ ht)
      · rcases List.mem_cons.1 ht with rfl | ht
        · exact .inl List.mem_cons_self
        · exact .inr ht
  intro st h3
  obtain ⟨h4, h5⟩ := key L [] (fun _ h => h) (fun s hs => by simp at hs) st h3 (fun s hs => by simp at hs)
  exact ⟨h4, fun s hs => h5 s (.inr hs)⟩
theorem relax_le (st : Lb α) (s : α) (v : Nat) : (A.relax far st s).at_ v ≤ st.at_ v := by
  unfold Arcs.relax
  split
  · rename_i h
    simp only [Arcs.put, upd]
    split
    · rename_i e; subst e; have := h.2; omega
    · exact Int.le_refl _
  · exact Int.le_refl _
theorem fold_le (L : List α) (st : Lb α) (v : Nat) : (L.foldl (A.relax far) st).at_ v ≤ st.at_ v :=
  fold_inv (I := fun t => t.at_ v ≤ st.at_ v) (fun t s _ h => Int.le_trans (relax_le t s v) h) (Int.le_refl _)
theorem reach_le (L : List α) (st : Lb α) (v : Nat) : ∀ k, (A.reach far L st k).at_ v ≤ st.at_ v
  | 0 => Int.le_refl _
  | k + 1 => Int.le_trans (fold_le (far := far) (A := A) L { A.reach far L st k with last := -1 } v) (reach_le L st v k)
/-! a round that changes nothing -/
theorem relax_idle {st : Lb α} {s : α} (h : ¬ A.Cond far st s) : A.relax far st s = st := by unfold Arcs.relax; rw [if_neg h]
theorem fold_idle : ∀ {L : List α} {st : Lb α}, (∀ s ∈ L, ¬ A.Cond far st s) → L.foldl (A.relax far) st = st
  | [], _, _ => rfl
  | s :: l, st, h => by rw [List.foldl_cons, relax_idle (h s List.mem_cons_self)]; exact fold_idle (fun t ht => h t (List.mem_cons_of_mem _ ht))
theorem sat_idle {L : List α} {st : Lb α} (h : A.Sat far L st.at_) : A.round far L st = { st with last := -1 } := fold_idle fun s hs hc => by
  have h1 := hc.1
  have h2 := hc.2
  have := h s hs h1
  simp only at h2
  omega
theorem fold_last : ∀ {L : List α} {st : Lb α}, (L.foldl (A.relax far) st).last < 0 → st.last < 0 ∧ ∀ s ∈ L, ¬ A.Cond far st s
  | [], _, h => ⟨h, fun s hs => by simp at hs⟩
  | s :: l, st, h => by
    rw [List.foldl_cons] at h
    obtain ⟨h1, h2⟩ := fold_last h
    by_cases hc : A.Cond far st s
    · unfold Arcs.relax at h1
      rw [if_pos hc] at h1
      simp only [Arcs.put] at h1
      omega
    · rw [relax_idle hc] at h1 h2
      refine ⟨h1, fun t ht => ?_⟩
      rcases List.mem_cons.1 ht with rfl | ht
      · exact hc
      · exact h2 t ht
theorem last_sat {L : List α} {st : Lb α} (h : (A.round far L st).last < 0) : A.Sat far L st.at_ ∧ A.round far L st = { st with last := -1 } := by
  have h1 := (fold_last h).2
  refine ⟨fun s hs hf => ?_, fold_idle h1⟩
  have := h1 s hs
  unfold Arcs.Cond at this
  simp only [hf, true_and] at this
  omega
theorem sat_last {L : List α} {st : Lb α} (h : A.Sat far L st.at_) : (A.round far L st).last = -1 := by rw [sat_idle h]
/-! rounds end where there are prices -/
theorem range_len {N : Nat} {S : List Nat} (h1 : S.Nodup) (h2 : ∀ x ∈ S, x < N) : S.length ≤ N := by
  have := List.Nodup.length_le_of_subset h1 (l₂ := List.range N) (fun x hx => List.mem_range.2 (h2 x hx))
  rwa [List.length_range] at this
/-- the nodes S are settled -/
structure Settled (A : Arcs α) (far : Int) (N : Nat) (L : List α) (p : Nat → Int) (at_ : Nat → Int) (S : List Nat) : Prop where
  nd : S.Nodup
  lt : ∀ u ∈ S, u < N ∧ at_ u < far
  out : ∀ s ∈ L, A.fr s ∈ S → at_ (A.to s) ≤ at_ (A.fr s) + A.ln s
  low : ∀ u ∈ S, ∀ v, v ∉ S → v < N → at_ v < far → at_ u - p u ≤ at_ v - p v
theorem least_out {N : Nat} {S : List Nat} {p at_ : Nat → Int} (h : ∃ v, v < N ∧ v ∉ S ∧ at_ v < far) : ∃ v, (v < N ∧ v ∉ S ∧ at_ v < far) ∧ ∀ u, u < N → u ∉ S → at_ u < far → at_ v - p v ≤ at_ u - p u := by
  have key : ∀ k, (∀ u, u < k → u < N → u ∉ S → ¬ at_ u < far) ∨ ∃ v, (v < N ∧ v ∉ S ∧ at_ v < far) ∧ ∀ u, u < k → u < N → u ∉ S → at_ u < far → at_ v - p v ≤ at_ u - p u := by
    intro k
    induction k with
    | zero => exact .inl (fun u hu => by omega)
    | succ k ih =>
      by_cases hk : k < N ∧ k ∉ S ∧ at_ k < far
      · rcases ih with ih | ⟨v, hv, ih⟩
        · refine .inr ⟨k, hk, fun u hu h1 h2 h3 => ?_⟩
          rcases Nat.lt_succ_iff_lt_or_eq.1 hu with hu | rfl
          · exact absurd h3 (ih u hu h1 h2)
          · exact Int.le_refl _
        · by_cases hc : at_ v - p v ≤ at_ k - p k
          · refine .inr ⟨v, hv, fun u hu h1 h2 h3 => ?_⟩
            rcases Nat.lt_succ_iff_lt_or_eq.1 hu with hu | rfl
            · exact ih u hu h1 h2 h3
            · exact hc
          · refine .inr ⟨k, hk, fun u hu h1 h2 h3 => ?_⟩
            rcases Nat.lt_succ_iff_lt_or_eq.1 hu with hu | rfl
            · have := ih u hu h1 h2 h3; omega
            · exact Int.le_refl _
      · rcases ih with ih | ⟨v, hv, ih⟩
        · refine .inl fun u hu h1 h2 h3 => ?_
          rcases Nat.lt_succ_iff_lt_or_eq.1 hu with hu | rfl
          · exact ih u hu h1 h2 h3
          · exact hk ⟨h1, h2, h3⟩
        · refine .inr ⟨v, hv, fun u hu h1 h2 h3 => ?_⟩
          rcases Nat.lt_succ_iff_lt_or_eq.1 hu with hu | rfl
          · exact ih u hu h1 h2 h3
          · exact absurd ⟨h1, h2, h3⟩ hk
  obtain ⟨v, h1, h2, h3⟩ := h
  rcases key N with k | ⟨w, hw, k⟩
  · exact absurd h3 (k v h1 h1 h2)
  · exact ⟨w, hw, fun u hu => k u hu hu⟩
theorem settle_more {N : Nat} {L : List α} {p : Nat → Int} (hL : A.In N L) (hp : A.Pot L p) {st : Lb α} {S : List Nat} (h : Settled A far N L p st.at_ S) (hv : ∃ v, v < N ∧ v ∉ S ∧ st.at_ v < far) : ∃ v, Settled A far N L p (A.round far L st).at_ (v :: S) := by
  obtain ⟨v, ⟨v1, v2, v3⟩, v4⟩ := least_out (p := p) hv
  have hvS : ∀ u ∈ S, st.at_ u - p u ≤ st.at_ v - p v := fun u hu => h.low u hu v v2 v1 v3
  obtain ⟨⟨i1, i2, i3⟩, hD⟩ := fold_done (A := A) (far := far) (L := L)
    (I := fun t => (∀ u ∈ v :: S, t.at_ u = st.at_ u) ∧ (∀ u, u < N → u ∉ S → t.at_ u < far → st.at_ v - p v ≤ t.at_ u - p u) ∧ (∀ u, t.at_ u ≤ st.at_ u))
    (D := fun s t => A.fr s = v → t.at_ (A.to s) ≤ t.at_ v + A.ln s)
    (fun t s hs hI => by
      obtain ⟨j1, j2, j3⟩ := hI
      have hs1 := hL s hs
      have hs2 := hp s hs
      by_cases hc : A.Cond far t s
      · have c1 := hc.1
        have c2 := hc.2
        have hnot : A.fr s ∉ S := fun hm => by
          have q1 := j1 _ (List.mem_cons_of_mem _ hm)
          have q2 := h.out s hs hm
          have q3 := j3 (A.to s)
          -- labels outside only fall; the arc was met and stays met
          by_cases hm2 : A.to s ∈ v :: S
          · have := j1 _ hm2; omega
          · have hm3 : A.to s ∉ S := fun hh => hm2 (List.mem_cons_of_mem _ hh)
            omega
        have hlow := j2 _ hs1.1 hnot c1
        have hto : A.to s ∉ v :: S := fun hm => by
          have q1 := j1 _ hm
          rcases List.mem_cons.1 hm with e | hm
          · rw [e] at hs2 q1 c2
            omega
          · have := hvS _ hm
            omega
        have hr : A.relax far t s = A.put t s := by unfold Arcs.relax; rw [if_pos hc]
        rw [hr]
        refine ⟨⟨fun u hu => ?_, fun u hu h1 h2 => ?_, fun u => ?_⟩, fun he => ?_⟩
        · simp only [Arcs.put]
          rw [upd_ne (fun e => hto (by rw [← e]; exact hu))]
          exact j1 u hu
        · simp only [Arcs.put, upd] at h2 ⊢
          by_cases e : u = A.to s
          · rw [if_pos e]; subst e; omega
          · rw [if_neg e] at h2 ⊢; exact j2 u hu h1 h2
        · simp only [Arcs.put, upd]
          split
          · rename_i e; subst e; have := j3 (A.to s); omega
          · exact j3 u
        · simp only [Arcs.put]
          have hne : v ≠ A.to s := fun e => hto (by rw [← e]; exact List.mem_cons_self)
          rw [upd_same, upd_ne hne, he]
          exact Int.le_refl _
      · rw [relax_idle hc]
        refine ⟨⟨j1, j2, j3⟩, fun he => ?_⟩
        have := j1 v List.mem_cons_self
        unfold Arcs.Cond at hc
        rw [he, this] at hc
        rw [this]
        omega)
    (fun t s r hs hr hI hd he => by
      obtain ⟨j1, j2, j3⟩ := hI
      have q := hd he
      have h1 := relax_le (A := A) (far := far) t s (A.to r)
      -- v keeps its label
      by_cases hc : A.Cond far t s
      · have c1 := hc.1
        have c2 := hc.2
        have hs1 := hL s hs
        have hs2 := hp s hs
        have hnot : A.fr s ∉ S := fun hm => by
          have q1 := j1 _ (List.mem_cons_of_mem _ hm)
          have q2 := h.out s hs hm
          have q3 := j3 (A.to s)
          by_cases hm2 : A.to s ∈ v :: S
          · have := j1 _ hm2; omega
          · omega
        have hlow := j2 _ hs1.1 hnot c1
        have hto : A.to s ≠ v := fun e => by
          have q1 := j1 v List.mem_cons_self
          rw [e] at hs2 c2
          omega
        have e2 : (A.relax far t s).at_ v = t.at_ v := by
          unfold Arcs.relax; rw [if_pos hc]; simp only [Arcs.put]; exact upd_ne (fun e => hto e.symm)
        rw [e2]
        omega
      · rw [relax_idle hc]; exact q)
    (st := { st with last := -1 }) ⟨fun u _ => rfl, fun u hu h1 h2 => v4 u hu h1 h2, fun u => Int.le_refl _⟩
  refine ⟨v, ⟨List.nodup_cons.2 ⟨v2, h.nd⟩, fun u hu => ?_, fun s hs hm => ?_, fun u hu w hw hwN hwf => ?_⟩⟩
  · have := i1 u hu
    unfold Arcs.round
    rw [this]
    rcases List.mem_cons.1 hu with rfl | hu
    · exact ⟨v1, v3⟩
    · exact h.lt u hu
  · unfold Arcs.round
    rcases List.mem_cons.1 hm with e | hm
    · have := hD s hs e; rw [e]; exact this
    · have q1 := i1 _ (List.mem_cons_of_mem _ hm)
      have q2 := h.out s hs hm
      have q3 := i3 (A.to s)
      rw [q1]
      omega
  · unfold Arcs.round at hwf ⊢
    have q1 := i1 u hu
    have q2 := i2 w hwN (fun hh => hw (List.mem_cons_of_mem _ hh)) hwf
    rw [q1]
    rcases List.mem_cons.1 hu with rfl | hu
    · exact q2
    · have := hvS u hu; omega
theorem settle_all {N : Nat} {L : List α} {p : Nat → Int} (hL : A.In N L) (hp : A.Pot L p) (st : Lb α) : ∀ k, A.Sat far L (A.reach far L st k).at_ ∨ ∃ S, S.length = k ∧ Settled A far N L p (A.reach far L st k).at_ S
  | 0 => .inr ⟨[], rfl, List.nodup_nil, fun u hu => by simp at hu, fun s _ hm => by simp at hm, fun u hu => by simp at hu⟩
  | k + 1 => by
    rcases settle_all hL hp st k with h | ⟨S, hl, h⟩
    · refine .inl ?_
      show A.Sat far L (A.round far L (A.reach far L st k)).at_
      rw [sat_idle h]; exact h
    · by_cases hv : ∃ v, v < N ∧ v ∉ S ∧ (A.reach far L st k).at_ v < far
      · obtain ⟨v, hS⟩ := settle_more hL hp h hv
        exact .inr ⟨v :: S, by simp [hl], hS⟩
      · refine .inl ?_
        have hsat : A.Sat far L (A.reach far L st k).at_ := fun s hs hf => by
          have h1 := hL s hs
          have h2 : A.fr s ∈ S := Classical.byContradiction fun hn => hv ⟨A.fr s, h1.1, hn, hf⟩
          exact h.out s hs h2
        show A.Sat far L (A.round far L (A.reach far L st k)).at_
        rw [sat_idle hsat]; exact hsat
/-- with prices, all is reached in one round less than there are nodes -/
theorem reach_sat {N : Nat} {L : List α} {p : Nat → Int} (hL : A.In (N + 1) L) (hp : A.Pot L p) (st : Lb α) : A.Sat far L (A.reach far L st N).at_ := by
  rcases settle_all hL hp st N with h | ⟨S, hl, h⟩
  · exact h
  · intro s hs hf
    have h1 := hL s hs
    by_cases hm : A.fr s ∈ S
    · exact h.out s hs hm
    · by_cases hm2 : A.to s ∈ S
      · have := h.low _ hm2 _ hm h1.1 hf
        have := hp s hs
        omega
      · by_cases e : A.fr s = A.to s
        · have h2 := hp s hs
          rw [e] at h2 hf ⊢
          omega
        · have := range_len (N := N + 1) (S := A.fr s :: A.to s :: S) (by
            rw [List.nodup_cons, List.nodup_cons]
            refine ⟨fun hh => ?_, hm2, h.nd⟩
            rcases List.mem_cons.1 hh with hh | hh
            · exact e hh
            · exact hm hh) (fun x hx => by
            rcases List.mem_cons.1 hx with rfl | hx
            · exact h1.1
            · rcases List.mem_cons.1 hx with rfl | hx
              · exact h1.2
              · exact (h.lt x hx).1)
          simp at this
          omega
theorem reach_sat' {N : Nat} {L : List α} {p : Nat → Int} (hL : A.In N L) (hp : A.Pot L p) (st : Lb α) : A.Sat far L (A.reach far L st N).at_ := by
  cases N with
  | zero => intro s hs; have := hL s hs; omega
  | succ n =>
    have h := reach_sat (far := far) hL hp st
    show A.Sat far L (A.round far L (A.reach far L st n)).at_
    rw [sat_idle h]; exact h
end
end Go.Proofs.Ytbejgbflipoboaa
/- Plain words of labels along arcs: the chains back, and prices made of labels. No program in sight. -/
namespace Go.Proofs.Ytbejgbflipoboaa

/-- the chain from a node back to where it begins -/
inductive Chn {α : Type} (A : Arcs α) (b : Nat → Option α) : Nat → List α → Nat → Prop
  | nil {v : Nat} : b v = none → Chn A b v [] v
  | cons {v : Nat} {s : α} {l : List α} {r : Nat} : b v = some s → Chn A b (A.fr s) l r → Chn A b v (s :: l) r
def sumLn {α : Type} (A : Arcs α) : List α → Int
  | [] => 0
  | s :: l => A.ln s + sumLn A l
section
variable {α : Type} {A : Arcs α} {far : Int}
theorem Chn.det {b : Nat → Option α} {v : Nat} {l : List α} {r : Nat} (h : Chn A b v l r) : ∀ {l' : List α} {r' : Nat}, Chn A b v l' r' → l = l' ∧ r = r' := by
  induction h with
  | nil h1 =>
    intro l' r' h2
    cases h2 with
    | nil _ => exact ⟨rfl, rfl⟩
    | cons h3 _ => rw [h1] at h3; exact absurd h3 (by simp)
  | cons h1 _ ih =>
    intro l' r' h2
    cases h2 with
    | nil h3 => rw [h1] at h3; exact absurd h3 (by simp)
    | cons h3 h4 =>
      rw [h1] at h3
      cases h3
      obtain ⟨e1, e2⟩ := ih h4
      exact ⟨by rw [e1], e2⟩
/-- the nodes of a chain behind its first one -/
def nodesOf (A : Arcs α) (l : List α) : List Nat := l.map A.fr
theorem Chn.at_node {b : Nat → Option α} {v : Nat} {l : List α} {r : Nat} (h : Chn A b v l r) : ∀ w, w ∈ v :: nodesOf A l → ∃ l', l'.length ≤ l.length ∧ (∀ s ∈ l', s ∈ l) ∧ Chn A b w l' r := by
  induction h with
  | nil h1 =>
    intro w hw
    simp only [nodesOf, List.map_nil, List.mem_singleton] at hw
    subst hw
    exact ⟨[], Nat.le_refl _, fun s h => h, .nil h1⟩
  | @cons v s l r h1 h2 ih =>
    intro w hw
    simp only [nodesOf, List.map_cons] at hw
    rcases List.mem_cons.1 hw with rfl | hw
    · exact ⟨s :: l, Nat.le_refl _, fun _ h => h, .cons h1 h2⟩
    · obtain ⟨l', h3, h4, h5⟩ := ih w hw
      exact ⟨l', by simp; omega, fun t ht => List.mem_cons_of_mem _ (h4 t ht), h5⟩
theorem Chn.nodup {b : Nat → Option α} {v : Nat} {l : List α} {r : Nat} (h : Chn A b v l r) : (v :: nodesOf A l).Nodup := by
  induction h with
  | nil _ => simp [nodesOf]
  | @cons v s l r h1 h2 ih =>
    rw [List.nodup_cons]
    refine ⟨fun hm => ?_, ih⟩
    obtain ⟨l', h3, _, h4⟩ := h2.at_node v hm
    have := (Chn.det (.cons h1 h2) h4).1
    rw [← this] at h3
    simp at h3
    omega
theorem Chn.in_ {b : Nat → Option α} {P : Nat → Prop} {v : Nat} {l : List α} {r : Nat} (h : Chn A b v l r) (hv : P v) (hs : ∀ v s, P v → b v = some s → P (A.fr s)) : P r ∧ (∀ w ∈ v :: nodesOf A l, P w) := by
  induction h with
  | nil _ => exact ⟨hv, fun w hw => by simp [nodesOf] at hw; subst hw; exact hv⟩
  | @cons v s l r h1 h2 ih =>
    obtain ⟨h3, h4⟩ := ih (hs _ _ hv h1)
    refine ⟨h3, fun w hw => ?_⟩
    rcases List.mem_cons.1 hw with rfl | hw
    · exact hv
    · exact h4 w (by simpa [nodesOf] using hw)
theorem Chn.arcs {b : Nat → Option α} {P : Nat → Prop} {Q : α → Prop} {v : Nat} {l : List α} {r : Nat} (h : Chn A b v l r) (hv : P v) (hs : ∀ v s, P v → b v = some s → P (A.fr s) ∧ Q s) : ∀ s ∈ l, Q s := by
  induction h with
  | nil _ => intro s h; simp at h
  | @cons v s l r h1 h2 ih =>
    intro t ht
    obtain ⟨h3, h4⟩ := hs _ _ hv h1
    rcases List.mem_cons.1 ht with rfl | ht
    · exact h4
    · exact ih h3 t ht
theorem Chn.root {b : Nat → Option α} {v : Nat} {l : List α} {r : Nat} (h : Chn A b v l r) : b r = none := by
  induction h with
  | nil h => exact h
  | cons _ _ ih => exact ih
/-- what holds of labels and chains at any time -/
structure LInv (A : Arcs α) (far : Int) (N : Nat) (L : List α) (p first : Nat → Int) (st : Lb α) : Prop where
  edge : ∀ v, v < N → ∀ s, st.by_ v = some s → s ∈ L ∧ A.to s = v ∧ st.at_ (A.fr s) < far ∧ st.at_ v < far ∧ st.at_ (A.fr s) + A.ln s ≤ st.at_ v
  root : ∀ v, v < N → st.by_ v = none → st.at_ v = first v
  ends : ∀ v, v < N → ∃ l r, Chn A st.by_ v l r
theorem linv_start {N : Nat} {L : List α} {p first : Nat → Int} : LInv A far N L p first ⟨first, fun _ => none, -1⟩ := ⟨fun v _ s h => by simp at h, fun v _ _ => rfl, fun v _ => ⟨[], v, .nil rfl⟩⟩
theorem LInv.last {N : Nat} {L : List α} {p first : Nat → Int} {st : Lb α} (h : LInv A far N L p first st) (k : Int) : LInv A far N L p first { st with last := k } := ⟨h.edge, h.root, h.ends⟩
/-- labels fall along chains, told with prices -/
theorem LInv.down {N : Nat} {L : List α} {p first : Nat → Int} {st : Lb α} (h : LInv A far N L p first st) (hL : A.In N L) (hp : A.Pot L p) {v : Nat} (hv : v < N) {l : List α} {r : Nat} (hc : Chn A st.by_ v l r) : ∀ w ∈ v :: nodesOf A l, st.at_ w - p w ≤ st.at_ v - p v := by
  induction hc with
  | nil _ => intro w hw; simp [nodesOf] at hw; subst hw; exact Int.le_refl _
  | @cons v s l r h1 h2 ih =>
    obtain ⟨e1, e2, e3, e4, e5⟩ := h.edge v hv s h1
    have hs := hL s e1
    intro w hw
    rcases List.mem_cons.1 hw with rfl | hw
    · exact Int.le_refl _
    · have := ih hs.1 w (by simpa [nodesOf] using hw)
      have := hp s e1
      rw [e2] at this
      omega
theorem LInv.relax {N : Nat} {L : List α} {p first : Nat → Int} {st : Lb α} (h : LInv A far N L p first st) (hL : A.In N L) (hp : A.Pot L p) (hf : ∀ v, v < N → st.at_ v ≤ far) {s : α} (hs : s ∈ L) : LInv A far N L p first (A.relax far st s) := by
  by_cases hc : A.Cond far st s
  case neg => rw [relax_idle hc]; exact h
  case pos =>
  have c1 := hc.1
  have c2 := hc.2
  have hs1 := hL s hs
  have hs2 := hp s hs
  have hft := hf (A.to s) hs1.2
  have hne : A.fr s ≠ A.to s := fun e => by rw [e] at c2 hs2; omega
  have hr : A.relax far st s = A.put st s := by unfold Arcs.relax; rw [if_pos hc]
  rw [hr]
  have notin : ∀ {w l r}, w < N → Chn A st.by_ w l r → A.to s ∉ w :: nodesOf A l → Chn A (A.put st s).by_ w l r := by
    intro w l r hw hch
    induction hch with
    | @nil w h1 =>
      intro hn
      refine .nil ?_
      show upd st.by_ _ _ w = none
      rw [upd_ne (fun e => hn (by rw [← e]; exact List.mem_cons_self))]; exact h1
    | @cons w t l r h1 h2 ih =>
      intro hn
      obtain ⟨e1, _⟩ := h.edge w hw t h1
      refine .cons (s := t) ?_ (ih (hL t e1).1 (fun hm => hn (List.mem_cons_of_mem _ (by simpa [nodesOf] using hm))))
      show upd st.by_ _ _ w = some t
      rw [upd_ne (fun e => hn (by rw [← e]; exact List.mem_cons_self))]; exact h1
  obtain ⟨lu, ru, hcu⟩ := h.ends (A.fr s) hs1.1
  have hnu : A.to s ∉ A.fr s :: nodesOf A lu := fun hm => by
    have := h.down hL hp hs1.1 hcu _ hm
    omega
  have hto : Chn A (A.put st s).by_ (A.to s) (s :: lu) ru := .cons (by show upd st.by_ _ _ _ = _; rw [upd_same]) (notin hs1.1 hcu hnu)
  refine ⟨fun v hv t ht => ?_, fun v hv hn => ?_, fun v hv => ?_⟩
  · have ht : upd st.by_ (A.to s) (some s) v = some t := ht
    show t ∈ L ∧ A.to t = v ∧ upd st.at_ (A.to s) (st.at_ (A.fr s) + A.ln s) (A.fr t) < far ∧ upd st.at_ (A.to s) (st.at_ (A.fr s) + A.ln s) v < far ∧ upd st.at_ (A.to s) (st.at_ (A.fr s) + A.ln s) (A.fr t) + A.ln t ≤ upd st.at_ (A.to s) (st.at_ (A.fr s) + A.ln s) v
    by_cases e : v = A.to s
    · subst e
      rw [upd_same] at ht
      cases ht
      rw [upd_same, upd_ne hne]
      exact ⟨hs, rfl, c1, by omega, Int.le_refl _⟩
    · rw [upd_ne e] at ht ⊢
      obtain ⟨e1, e2, e3, e4, e5⟩ := h.edge v hv t ht
      refine ⟨e1, e2, ?_, e4, ?_⟩
      · by_cases e6 : A.fr t = A.to s
        · rw [e6, upd_same]; omega
        · rw [upd_ne e6]; exact e3
      · by_cases e6 : A.fr t = A.to s
        · rw [e6, upd_same]; rw [e6] at e5; omega
        · rw [upd_ne e6]; exact e5
  · have hn : upd st.by_ (A.to s) (some s) v = none := hn
    by_cases e : v = A.to s
    · subst e; rw [upd_same] at hn; simp at hn
    · rw [upd_ne e] at hn
      show upd st.at_ _ _ v = _
      rw [upd_ne e]; exact h.root v hv hn
  · obtain ⟨l, r, hch⟩ := h.ends v hv
    -- up to the node that is told anew
    have key : ∀ {w l r}, w < N → Chn A st.by_ w l r → ∃ l' r', Chn A (A.put st s).by_ w l' r' := by
      intro w l r hw hch
      induction hch with
      | @nil w h1 =>
        by_cases e : w = A.to s
        · subst e; exact ⟨_, _, hto⟩
        · exact ⟨[], w, .nil (by show upd st.by_ _ _ w = none; rw [upd_ne e]; exact h1)⟩
      | @cons w t l r h1 h2 ih =>
        by_cases e : w = A.to s
        · subst e; exact ⟨_, _, hto⟩
        · obtain ⟨e1, _⟩ := h.edge w hw t h1
          obtain ⟨l', r', h3⟩ := ih (hL t e1).1
          exact ⟨t :: l', r', .cons (by show upd st.by_ _ _ w = some t; rw [upd_ne e]; exact h1) h3⟩
    exact key hv hch
/-- in the program's terms: the state behind k rounds -/
theorem reach_inv {N : Nat} {L : List α} {p first : Nat → Int} (hL : A.In N L) (hp : A.Pot L p) (hf : ∀ v, v < N → first v ≤ far) {st : Lb α} (h0 : LInv A far N L p first st) (h1 : ∀ v, v < N → st.at_ v ≤ far) : ∀ k, LInv A far N L p first (A.reach far L st k) ∧ ∀ v, v < N → (A.reach far L st k).at_ v ≤ far
  | 0 => ⟨h0, h1⟩
  | k + 1 => by
    obtain ⟨h2, h3⟩ := reach_inv hL hp hf h0 h1 k
    exact fold_inv (A := A) (far := far) (I := fun t => LInv A far N L p first t ∧ ∀ v, v < N → t.at_ v ≤ far) (fun t s hs hI => ⟨hI.1.relax hL hp hI.2 hs, fun v hv => Int.le_trans (relax_le t s v) (hI.2 v hv)⟩) ⟨h2.last (-1), h3⟩
/-- what the state is when nothing changes any more -/
structure LEnd (A : Arcs α) (far : Int) (N : Nat) (L : List α) (p first : Nat → Int) (at_ : Nat → Int) (b : Nat → Option α) : Prop where
  sat : A.Sat far L at_
  edge : ∀ v, v < N → ∀ s, b v = some s → s ∈ L ∧ A.to s = v ∧ at_ (A.fr s) < far ∧ at_ v < far ∧ at_ (A.fr s) + A.ln s = at_ v
  root : ∀ v, v < N → b v = none → at_ v = first v
  ends : ∀ v, v < N → ∃ l r, Chn A b v l r
  le : ∀ v, v < N → at_ v ≤ first v
theorem reach_end {N : Nat} {L : List α} {p first : Nat → Int} (hL : A.In N L) (hp : A.Pot L p) (hf : ∀ v, v < N → first v ≤ far) (k : Int) :
    LEnd A far N L p first (A.reach far L ⟨first, fun _ => none, k⟩ N).at_ (A.reach far L ⟨first, fun _ => none, k⟩ N).by_ := by
  obtain ⟨h1, h2⟩ := reach_inv (A := A) (far := far) (p := p) (first := first) hL hp hf (st := ⟨first, fun _ => none, k⟩) (linv_start.last k) hf N
  have h3 := reach_sat' (far := far) hL hp ⟨first, fun _ => none, k⟩
  refine ⟨h3, fun v hv s hs => ?_, h1.root, h1.ends, fun v hv => reach_le _ _ v N⟩
  obtain ⟨e1, e2, e3, e4, e5⟩ := h1.edge v hv s hs
  have := h3 s e1 e3
  rw [e2] at this
  exact ⟨e1, e2, e3, e4, by omega⟩
theorem LEnd.tele {N : Nat} {L : List α} {p first at_ : Nat → Int} {b : Nat → Option α} (h : LEnd A far N L p first at_ b) (hL : A.In N L) {v : Nat} (hv : v < N) {l : List α} {r : Nat} (hc : Chn A b v l r) : at_ v = at_ r + sumLn A l ∧ r < N ∧ (∀ s ∈ l, s ∈ L) ∧ at_ r = first r ∧ (at_ v < far → at_ r < far) := by
  induction hc with
  | nil h1 => exact ⟨by simp [sumLn], hv, fun s hs => by simp at hs, h.root _ hv h1, fun h => h⟩
  | @cons v s l r h1 h2 ih =>
    obtain ⟨e1, e2, e3, e4, e5⟩ := h.edge v hv s h1
    obtain ⟨i1, i2, i3, i4, i5⟩ := ih (hL s e1).1
    refine ⟨by simp only [sumLn]; omega, i2, fun t ht => ?_, i4, fun _ => i5 e3⟩
    rcases List.mem_cons.1 ht with rfl | ht
    · exact e1
    · exact i3 t ht
theorem Chn.short {b : Nat → Option α} {N : Nat} {L : List α} (hL : A.In N L) {v : Nat} {l : List α} {r : Nat} (h : Chn A b v l r) (hv : v < N) (hl : ∀ s ∈ l, s ∈ L) : l.length + 1 ≤ N := by
  have := range_len (N := N) h.nodup (fun x hx => by
    rcases List.mem_cons.1 hx with rfl | hx
    · exact hv
    · obtain ⟨s, hs, rfl⟩ := List.mem_map.1 hx
      exact (hL s (hl s hs)).1)
  simpa [nodesOf] using this
theorem sumLn_bd {l : List α} {K : Int} (h : ∀ s ∈ l, -K ≤ A.ln s ∧ A.ln s ≤ K) : -(l.length * K) ≤ sumLn A l ∧ sumLn A l ≤ l.length * K := by
  induction l with
  | nil => simp [sumLn]
  | cons s l ih =>
    have := ih (fun t ht => h t (List.mem_cons_of_mem _ ht))
    have h1 := h s List.mem_cons_self
    simp only [sumLn, List.length_cons, Int.natCast_add, Int.add_mul]
    simp only [Int.cast_ofNat_Int, Int.one_mul]
    omega
theorem LEnd.down {N : Nat} {L : List α} {p first at_ : Nat → Int} {b : Nat → Option α} (h : LEnd A far N L p first at_ b) (hL : A.In N L) (hp : A.Pot L p) {v : Nat} (hv : v < N) {l : List α} {r : Nat} (hc : Chn A b v l r) : ∀ w ∈ v :: nodesOf A l, at_ w - p w ≤ at_ v - p v ∧ (at_ v < far → at_ w < far) := by
  induction hc with
  | nil _ => intro w hw; simp [nodesOf] at hw; subst hw; exact ⟨Int.le_refl _, fun h => h⟩
  | @cons v s l r h1 h2 ih =>
    obtain ⟨e1, e2, e3, e4, e5⟩ := h.edge v hv s h1
    have hs := hL s e1
    intro w hw
    rcases List.mem_cons.1 hw with rfl | hw
    · exact ⟨Int.le_refl _, fun h => h⟩
    · have := ih hs.1 w (by simpa [nodesOf] using hw)
      have h3 := hp s e1
      rw [e2] at h3
      exact ⟨by omega, fun _ => this.2 e3⟩
/-- no label is further from its beginning than so many arcs are long -/
theorem LEnd.bd {N : Nat} {L : List α} {p first at_ : Nat → Int} {b : Nat → Option α} (h : LEnd A far N L p first at_ b) (hL : A.In N L) {K : Int} (hK : 0 ≤ K) (hl : ∀ s ∈ L, -K ≤ A.ln s ∧ A.ln s ≤ K) {v : Nat} (hv : v < N) : ∃ r, r < N ∧ b r = none ∧ at_ r = first r ∧ (at_ v < far → first r < far) ∧ first r - (N - 1) * K ≤ at_ v ∧ at_ v ≤ first r + (N - 1) * K := by
  obtain ⟨l, r, hc⟩ := h.ends v hv
  obtain ⟨h1, h2, h3, h4, h9⟩ := h.tele hL hv hc
  have h5 := hc.short hL hv h3
  have h6 := sumLn_bd (A := A) (l := l) (fun s hs => hl s (h3 s hs))
  have h7 : (l.length : Int) * K ≤ (N - 1) * K := Int.mul_le_mul_of_nonneg_right (by omega) hK
  exact ⟨r, h2, hc.root, h4, fun hh => by have := h9 hh; omega, by omega, by omega⟩
/-- prices made of labels: no node further than the cap -/
def capP (far : Int) (p at_ : Nat → Int) (c : Int) (v : Nat) : Int := if at_ v < far ∧ at_ v - p v < c then at_ v else c + p v
theorem capP_pot {L : List α} {p at_ : Nat → Int} {c : Int} (h : A.Sat far L at_) (hp : A.Pot L p) (hb : ∀ s ∈ L, at_ (A.fr s) < far → at_ (A.to s) < far) : A.Pot L (capP far p at_ c) := by
  intro s hs
  have h1 := hp s hs
  unfold capP
  by_cases h2 : at_ (A.fr s) < far ∧ at_ (A.fr s) - p (A.fr s) < c
  · rw [if_pos h2]
    have h3 := h s hs h2.1
    split
    · omega
    · rename_i h4
      have h5 := hb s hs h2.1
      have : ¬ at_ (A.to s) - p (A.to s) < c := fun h6 => h4 ⟨h5, h6⟩
      omega
  · rw [if_neg h2]
    split <;> omega
/-- along the chain to a node these prices are the labels, and each arc is tight -/
theorem capP_tight {N : Nat} {L : List α} {p first at_ : Nat → Int} {b : Nat → Option α} (h : LEnd A far N L p first at_ b) (hL : A.In N L) (hp : A.Pot L p) {v : Nat} (hv : v < N) (hf : at_ v < far) {l : List α} {r : Nat} (hc : Chn A b v l r) :
    ∀ s ∈ l, capP far p at_ (at_ v - p v) (A.to s) = A.ln s + capP far p at_ (at_ v - p v) (A.fr s) := by
  have hd := h.down hL hp hv hc
  have same : ∀ w ∈ v :: nodesOf A l, capP far p at_ (at_ v - p v) w = at_ w := fun w hw => by
    obtain ⟨h1, h2⟩ := hd w hw
    have h3 := h2 hf
    unfold capP
    split <;> omega
  clear hd
  have key : ∀ {w l r'}, w < N → Chn A b w l r' → (∀ x ∈ w :: nodesOf A l, capP far p at_ (at_ v - p v) x = at_ x) → ∀ s ∈ l, capP far p at_ (at_ v - p v) (A.to s) = A.ln s + capP far p at_ (at_ v - p v) (A.fr s) := by
    intro w l r' hw hch
    induction hch with
    | nil _ => intro _ s hs; simp at hs
    | @cons w t l r' h1 h2 ih =>
      intro hsame s hs
      obtain ⟨e1, e2, e3, e4, e5⟩ := h.edge w hw t h1
      rcases List.mem_cons.1 hs with rfl | hs
      · rw [e2, hsame w List.mem_cons_self, hsame (A.fr s) (List.mem_cons_of_mem _ (by simp [nodesOf]))]; omega
      · exact ih (hL t e1).1 (fun x hx => hsame x (List.mem_cons_of_mem _ (by simpa [nodesOf] using hx))) s hs
  exact key hv hc same
end
end Go.Proofs.Ytbejgbflipoboaa
/- Plain words of flows: what leaves, what it costs, steps, prices that prove, barriers. No program in sight. -/
namespace Go.Proofs.Ytbejgbflipoboaa

def sumN (f : Nat → Int) : Nat → Int
  | 0 => 0
  | n + 1 => sumN f n + f n
theorem sumN_congr {f g : Nat → Int} : ∀ {n : Nat}, (∀ i, i < n → f i = g i) → sumN f n = sumN g n
  | 0, _ => rfl
  | n + 1, h => by simp only [sumN]; rw [sumN_congr (fun i hi => h i (by omega)), h n (by omega)]
theorem sumN_add (f g : Nat → Int) : ∀ n, sumN (fun i => f i + g i) n = sumN f n + sumN g n
  | 0 => rfl
  | n + 1 => by simp only [sumN]; rw [sumN_add]; omega
theorem sumN_mul (c : Int) (f : Nat → Int) : ∀ n, sumN (fun i => c * f i) n = c * sumN f n
  | 0 => by simp [sumN]
  | n + 1 => by simp only [sumN]; rw [sumN_mul, Int.mul_add]
theorem sumN_zero : ∀ n, sumN (fun _ => 0) n = 0
  | 0 => rfl
  | n + 1 => by simp only [sumN]; rw [sumN_zero]; omega
theorem sumN_le {f g : Nat → Int} : ∀ {n : Nat}, (∀ i, i < n → f i ≤ g i) → sumN f n ≤ sumN g n
  | 0, _ => Int.le_refl _
  | n + 1, h => by
    simp only [sumN]
    have := sumN_le (n := n) (fun i hi => h i (by omega))
    have := h n (by omega)
    omega
theorem sumN_nonneg {f : Nat → Int} {n : Nat} (h : ∀ i, i < n → 0 ≤ f i) : 0 ≤ sumN f n := by
  have := sumN_le (f := fun _ => 0) (g := f) (n := n) h
  rw [sumN_zero] at this; exact this
theorem sumN_swap (f : Nat → Nat → Int) (m : Nat) : ∀ n, sumN (fun i => sumN (fun j => f i j) m) n = sumN (fun j => sumN (fun i => f i j) n) m
  | 0 => by simp only [sumN]; rw [sumN_zero]
  | n + 1 => by
    simp only [sumN]
    rw [sumN_swap f m n, ← sumN_add]
theorem sumN_pick (f : Nat → Int) (a : Nat) : ∀ n, sumN (fun v => if v = a then f v else 0) n = if a < n then f a else 0
  | 0 => by simp [sumN]
  | n + 1 => by
    simp only [sumN]
    rw [sumN_pick]
    by_cases h : n = a
    · subst h; simp
    · by_cases h2 : a < n
      · rw [if_pos h2, if_neg h, if_pos (by omega)]; omega
      · rw [if_neg h2, if_neg h, if_neg (by omega)]; omega
/-- all terms not below 0 and their sum 0: each is 0 -/
theorem sumN_all0 {f : Nat → Int} : ∀ {n : Nat}, (∀ i, i < n → 0 ≤ f i) → sumN f n ≤ 0 → ∀ i, i < n → f i = 0
  | 0, _, _, i, hi => by omega
  | n + 1, h, hs, i, hi => by
    simp only [sumN] at hs
    have h1 := sumN_nonneg (n := n) (fun i hi => h i (by omega))
    have h2 := h n (by omega)
    rcases Nat.lt_succ_iff_lt_or_eq.1 hi with hi | rfl
    · exact sumN_all0 (n := n) (fun i hi => h i (by omega)) (by omega) i hi
    · omega
def one (a b : Nat) : Int := if a = b then 1 else 0
structure NetG where
  K : Nat
  fr : Nat → Nat
  to : Nat → Nat
  ln : Nat → Int
  wd : Nat → Int
def eNo (s : Int) : Nat := (max s (-s) - 1).toNat
def sg (s : Int) : Int := if s < 0 then -1 else 1
namespace NetG
def arcs (G : NetG) : Arcs Int := ⟨fun s => if s < 0 then G.to (eNo s) else G.fr (eNo s), fun s => if s < 0 then G.fr (eNo s) else G.to (eNo s), fun s => if s < 0 then -G.ln (eNo s) else G.ln (eNo s)⟩
def IsStep (G : NetG) (s : Int) : Prop := 1 ≤ max s (-s) ∧ max s (-s) ≤ G.K
/-- a step that a flow allows -/
def Ok (G : NetG) (f : Nat → Int) (s : Int) : Prop := G.IsStep s ∧ if s < 0 then 0 < f (eNo s) else f (eNo s) < G.wd (eNo s)
def Steps (G : NetG) (f : Nat → Int) (L : List Int) : Prop := ∀ s, s ∈ L ↔ G.Ok f s
def Fs (G : NetG) (f : Nat → Int) : Prop := ∀ k, k < G.K → 0 ≤ f k ∧ f k ≤ G.wd k
def out (G : NetG) (f : Nat → Int) (v : Nat) : Int := sumN (fun k => f k * (one (G.fr k) v - one (G.to k) v)) G.K
def cost (G : NetG) (f : Nat → Int) : Int := sumN (fun k => G.ln k * f k) G.K
def Fine (G : NetG) (N : Nat) : Prop := ∀ k, k < G.K → G.fr k < N ∧ G.to k < N
end NetG
theorem eNo_lt {G : NetG} {s : Int} (h : G.IsStep s) : eNo s < G.K := by unfold eNo; have := h.1; have := h.2; omega
theorem eNo_pos (k : Nat) : eNo ((k : Int) + 1) = k := by unfold eNo; omega
theorem eNo_neg (k : Nat) : eNo (-(k : Int) - 1) = k := by unfold eNo; omega
theorem eNo_eq {s t : Int} (hs : 1 ≤ max s (-s)) (ht : 1 ≤ max t (-t)) (h : eNo s = eNo t) : s = t ∨ s = -t := by unfold eNo at h; omega
theorem ok_pos {G : NetG} {f : Nat → Int} {k : Nat} (hk : k < G.K) (h : f k < G.wd k) : G.Ok f ((k : Int) + 1) := ⟨⟨by omega, by omega⟩, by rw [if_neg (by omega), eNo_pos]; exact h⟩
theorem ok_neg {G : NetG} {f : Nat → Int} {k : Nat} (hk : k < G.K) (h : 0 < f k) : G.Ok f (-(k : Int) - 1) := ⟨⟨by omega, by omega⟩, by rw [if_pos (by omega), eNo_neg]; exact h⟩
theorem steps_in {G : NetG} {N : Nat} {f : Nat → Int} {L : List Int} (hG : G.Fine N) (hL : G.Steps f L) : G.arcs.In N L := fun s hs => by
  have h1 := hG _ (eNo_lt ((hL s).1 hs).1)
  simp only [NetG.arcs]
  split <;> exact ⟨by omega, by omega⟩
/-! the worth of prices -/
theorem sum_one (p : Nat → Int) {a N : Nat} (h : a < N) : sumN (fun v => p v * one a v) N = p a := by
  rw [show (fun v => p v * one a v) = (fun v => if v = a then p v else 0) from funext fun v => by unfold one; by_cases e : v = a; rw [if_pos e, if_pos e.symm]; omega; rw [if_neg e, if_neg (fun h => e h.symm)]; omega]
  rw [sumN_pick, if_pos h]
theorem sum_out {G : NetG} {N : Nat} (hG : G.Fine N) (p f : Nat → Int) : sumN (fun v => p v * G.out f v) N = sumN (fun k => f k * (p (G.fr k) - p (G.to k))) G.K := by
  rw [show (fun v => p v * G.out f v) = (fun v => sumN (fun k => f k * (p v * one (G.fr k) v - p v * one (G.to k) v)) G.K) from funext fun v => by
    unfold NetG.out
    rw [← sumN_mul]
    exact sumN_congr fun k _ => by grind]
  rw [sumN_swap]
  refine sumN_congr fun k hk => ?_
  rw [sumN_mul]
  congr 1
  rw [show (fun v => p v * one (G.fr k) v - p v * one (G.to k) v) = (fun v => p v * one (G.fr k) v + (-1) * (p v * one (G.to k) v)) from funext fun v => by omega]
  rw [sumN_add, sumN_mul, sum_one p (hG k hk).1, sum_one p (hG k hk).2]
  omega
/-- prices for all steps of a flow: it is a cheapest one -/
theorem cheapest_of {G : NetG} {N : Nat} (hG : G.Fine N) {f g p : Nat → Int} {L : List Int} (hL : G.Steps f L) (hp : G.arcs.Pot L p) (hf : G.Fs f) (hg : G.Fs g) (hout : ∀ v, v < N → G.out f v = G.out g v) :
    G.cost f ≤ G.cost g ∧ (G.cost g ≤ G.cost f → ∀ k, k < G.K → (G.ln k + p (G.fr k) - p (G.to k)) * (g k - f k) = 0) := by
  have key : sumN (fun k => (G.ln k + p (G.fr k) - p (G.to k)) * (g k - f k)) G.K = G.cost g - G.cost f := by
    have h1 := sum_out hG p f
    have h2 := sum_out hG p g
    rw [sumN_congr (g := fun v => p v * G.out g v) (fun v hv => by rw [hout v hv]), h2] at h1
    have h3 : sumN (fun k => (G.ln k + p (G.fr k) - p (G.to k)) * (g k - f k)) G.K = sumN (fun k => (G.ln k * g k + (-1) * (G.ln k * f k)) + (g k * (p (G.fr k) - p (G.to k)) + (-1) * (f k * (p (G.fr k) - p (G.to k))))) G.K := sumN_congr fun k _ => by grind
    rw [h3, sumN_add, sumN_add, sumN_add, sumN_mul, sumN_mul, h1]
    unfold NetG.cost
    omega
  have pos : ∀ k, k < G.K → 0 ≤ (G.ln k + p (G.fr k) - p (G.to k)) * (g k - f k) := fun k hk => by
    have f1 := hf k hk
    have g1 := hg k hk
    by_cases h1 : f k < g k
    · have h2 := hp _ ((hL _).2 (ok_pos hk (show f k < G.wd k by omega)))
      simp only [NetG.arcs, eNo_pos] at h2
      rw [if_neg (by omega), if_neg (by omega), if_neg (by omega)] at h2
      exact Int.mul_nonneg (by omega) (by omega)
    · by_cases h3 : g k < f k
      · have h2 := hp _ ((hL _).2 (ok_neg hk (show 0 < f k by omega)))
        simp only [NetG.arcs, eNo_neg] at h2
        rw [if_pos (by omega), if_pos (by omega), if_pos (by omega)] at h2
        have := Int.mul_nonneg (show 0 ≤ -(G.ln k + p (G.fr k) - p (G.to k)) by omega) (show 0 ≤ -(g k - f k) by omega)
        rwa [Int.neg_mul_neg] at this
      · rw [show g k - f k = 0 by omega]; omega
  refine ⟨?_, fun hle => sumN_all0 pos (by omega)⟩
  have := sumN_nonneg pos
  omega
/-- the prices of one cheapest flow prove each other one -/
theorem pot_all {G : NetG} {N : Nat} (hG : G.Fine N) {f g p : Nat → Int} {L M : List Int} (hL : G.Steps f L) (hM : G.Steps g M) (hp : G.arcs.Pot L p) (hf : G.Fs f) (hg : G.Fs g) (hout : ∀ v, v < N → G.out f v = G.out g v) (hle : G.cost g ≤ G.cost f) : G.arcs.Pot M p := by
  intro s hs
  obtain ⟨h1, h2⟩ := (hM s).1 hs
  have hk := eNo_lt h1
  have h3 := (cheapest_of hG hL hp hf hg hout).2 hle (eNo s) hk
  have f1 := hf _ hk
  have g1 := hg _ hk
  have hor := Int.mul_eq_zero.1 h3
  have a1 : f (eNo s) < G.wd (eNo s) → 0 ≤ G.ln (eNo s) + p (G.fr (eNo s)) - p (G.to (eNo s)) := fun h => by
    have h2 := hp _ ((hL _).2 (ok_pos hk h))
    simp only [NetG.arcs, eNo_pos] at h2
    rw [if_neg (by omega), if_neg (by omega), if_neg (by omega)] at h2
    omega
  have a2 : 0 < f (eNo s) → G.ln (eNo s) + p (G.fr (eNo s)) - p (G.to (eNo s)) ≤ 0 := fun h => by
    have h2 := hp _ ((hL _).2 (ok_neg hk h))
    simp only [NetG.arcs, eNo_neg] at h2
    rw [if_pos (by omega), if_pos (by omega), if_pos (by omega)] at h2
    omega
  simp only [NetG.arcs]
  split at h2
  · rename_i hneg
    rw [if_pos hneg, if_pos hneg, if_pos hneg]
    rcases hor with h | h
    · omega
    · have := a2 (by omega); omega
  · rename_i hneg
    rw [if_neg hneg, if_neg hneg, if_neg hneg]
    rcases hor with h | h
    · omega
    · have := a1 (by omega); omega
/-! a flow turned along steps -/
def turnG (f : Nat → Int) (s : Int) : Nat → Int := upd f (eNo s) (f (eNo s) + sg s)
theorem sumN_upd (w f : Nat → Int) (a : Nat) (d : Int) : ∀ n, sumN (fun k => w k * upd f a (f a + d) k) n = sumN (fun k => w k * f k) n + if a < n then w a * d else 0
  | 0 => by simp [sumN]
  | n + 1 => by
    simp only [sumN]
    rw [sumN_upd]
    by_cases h : n = a
    · subst h
      rw [upd_same, if_neg (by omega), if_pos (by omega), Int.mul_add]; omega
    · rw [upd_ne h]
      by_cases h2 : a < n
      · rw [if_pos h2, if_pos (by omega)]; omega
      · rw [if_neg h2, if_neg (by omega)]; omega
theorem turnG_cost {G : NetG} (f : Nat → Int) {s : Int} (h : G.IsStep s) : G.cost (turnG f s) = G.cost f + G.arcs.ln s := by
  unfold NetG.cost turnG
  rw [sumN_upd, if_pos (eNo_lt h)]
  simp only [NetG.arcs, sg]
  split <;> omega
theorem turnG_out {G : NetG} (f : Nat → Int) {s : Int} (h : G.IsStep s) (v : Nat) : G.out (turnG f s) v = G.out f v + one (G.arcs.fr s) v - one (G.arcs.to s) v := by
  unfold NetG.out turnG
  rw [show (fun k => upd f (eNo s) (f (eNo s) + sg s) k * (one (G.fr k) v - one (G.to k) v)) = (fun k => (one (G.fr k) v - one (G.to k) v) * upd f (eNo s) (f (eNo s) + sg s) k) from funext fun k => Int.mul_comm _ _]
  rw [sumN_upd, if_pos (eNo_lt h), sumN_congr (f := fun k => (one (G.fr k) v - one (G.to k) v) * f k) (g := fun k => f k * (one (G.fr k) v - one (G.to k) v)) (fun k _ => Int.mul_comm _ _)]
  simp only [NetG.arcs, sg]
  split <;> omega
def turnsG (f : Nat → Int) (l : List Int) : Nat → Int := l.foldl turnG f
theorem turnsG_cost {G : NetG} : ∀ (l : List Int) (f : Nat → Int), (∀ s ∈ l, G.IsStep s) → G.cost (turnsG f l) = G.cost f + sumLn G.arcs l
  | [], f, _ => by simp [turnsG, sumLn]
  | s :: l, f, h => by
    have := turnsG_cost l (turnG f s) (fun t ht => h t (List.mem_cons_of_mem _ ht))
    unfold turnsG at this ⊢
    rw [List.foldl_cons, this, turnG_cost f (h s List.mem_cons_self)]
    simp only [sumLn]; omega
/-- what the ends of steps add up to -/
def sumEnd (G : NetG) (v : Nat) : List Int → Int
  | [] => 0
  | s :: l => one (G.arcs.fr s) v - one (G.arcs.to s) v + sumEnd G v l
theorem turnsG_out {G : NetG} (v : Nat) : ∀ (l : List Int) (f : Nat → Int), (∀ s ∈ l, G.IsStep s) → G.out (turnsG f l) v = G.out f v + sumEnd G v l
  | [], f, _ => by simp [turnsG, sumEnd]
  | s :: l, f, h => by
    have := turnsG_out v l (turnG f s) (fun t ht => h t (List.mem_cons_of_mem _ ht))
    unfold turnsG at this ⊢
    rw [List.foldl_cons, this, turnG_out f (h s List.mem_cons_self)]
    simp only [sumEnd]; omega
theorem turnsG_other : ∀ (l : List Int) (f : Nat → Int) (k : Nat), k ∉ l.map eNo → turnsG f l k = f k
  | [], f, k, _ => rfl
  | s :: l, f, k, h => by
    rw [List.map_cons, List.mem_cons, not_or] at h
    have := turnsG_other l (turnG f s) k h.2
    unfold turnsG at this ⊢
    rw [List.foldl_cons, this]
    unfold turnG; exact upd_ne h.1
theorem turnsG_at : ∀ (l : List Int) (f : Nat → Int), (l.map eNo).Nodup → ∀ s ∈ l, turnsG f l (eNo s) = f (eNo s) + sg s
  | [], f, _, s, hs => by simp at hs
  | t :: l, f, h, s, hs => by
    rw [List.map_cons, List.nodup_cons] at h
    rcases List.mem_cons.1 hs with rfl | hs
    · have := turnsG_other l (turnG f s) (eNo s) h.1
      unfold turnsG at this ⊢
      rw [List.foldl_cons, this]
      unfold turnG; rw [upd_same]
    · have hne : eNo s ≠ eNo t := fun e => h.1 (by rw [← e]; exact List.mem_map_of_mem hs)
      have := turnsG_at l (turnG f t) h.2 s hs
      unfold turnsG at this ⊢
      rw [List.foldl_cons, this]
      unfold turnG; rw [upd_ne hne]
theorem turnsG_fs {G : NetG} {f : Nat → Int} {l : List Int} (hf : G.Fs f) (hl : ∀ s ∈ l, G.Ok f s) (hn : (l.map eNo).Nodup) : G.Fs (turnsG f l) := by
  intro k hk
  by_cases hm : k ∈ l.map eNo
  · obtain ⟨s, hs, rfl⟩ := List.mem_map.1 hm
    rw [turnsG_at l f hn s hs]
    have h1 := (hl s hs).2
    have h2 := hf _ hk
    unfold sg
    split at h1
    · rename_i h3; rw [if_pos h3]; omega
    · rename_i h3; rw [if_neg h3]; omega
  · rw [turnsG_other l f k hm]; exact hf k hk
/-- prices that are tight along the steps serve the turned flow -/
theorem turnsG_pot {G : NetG} {f p : Nat → Int} {l L M : List Int} (hL : G.Steps f L) (hM : G.Steps (turnsG f l) M) (hp : G.arcs.Pot L p) (hl : ∀ s ∈ l, G.Ok f s) (ht : ∀ s ∈ l, p (G.arcs.to s) = G.arcs.ln s + p (G.arcs.fr s)) : G.arcs.Pot M p := by
  intro s hs
  obtain ⟨h1, h2⟩ := (hM s).1 hs
  by_cases hm : eNo s ∈ l.map eNo
  · obtain ⟨t, htl, e⟩ := List.mem_map.1 hm
    have h3 := ht t htl
    rcases eNo_eq (hl t htl).1.1 h1.1 e with rfl | rfl
    · omega
    · have e2 : eNo (-s) = eNo s := e
      have hne : s ≠ 0 := fun h => by have := h1.1; rw [h] at this; simp at this
      simp only [NetG.arcs, e2] at h3 ⊢
      by_cases hneg : s < 0
      · rw [if_neg (by omega), if_neg (by omega), if_neg (by omega)] at h3
        rw [if_pos hneg, if_pos hneg, if_pos hneg]; omega
      · rw [if_pos (by omega), if_pos (by omega), if_pos (by omega)] at h3
        rw [if_neg hneg, if_neg hneg, if_neg hneg]; omega
  · rw [turnsG_other l f _ hm] at h2
    exact hp s ((hL s).2 ⟨h1, h2⟩)
/-- the steps of a chain go along different roads -/
theorem chn_roads {G : NetG} {b : Nat → Option Int} {N : Nat} {f : Nat → Int} {L : List Int} (hL : G.Steps f L) (hb : ∀ v, v < N → ∀ s, b v = some s → s ∈ L ∧ G.arcs.to s = v ∧ G.arcs.fr s < N) {v : Nat} {l : List Int} {r : Nat} (hc : Chn G.arcs b v l r) : v < N → (l.map eNo).Nodup := by
  induction hc with
  | nil _ => intro _; simp
  | @cons v s l r h1 h2 ih =>
    intro hv
    obtain ⟨e1, e2, e3⟩ := hb v hv s h1
    rw [List.map_cons, List.nodup_cons]
    refine ⟨fun hm => ?_, ih e3⟩
    have hl : ∀ t ∈ l, t ∈ L := h2.arcs (P := fun v => v < N) (Q := fun t => t ∈ L) e3 (fun v t hv ht => ⟨(hb v hv t ht).2.2, (hb v hv t ht).1⟩)
    obtain ⟨t, ht, e⟩ := List.mem_map.1 hm
    have hs1 := ((hL s).1 e1).1
    have nd : (v :: nodesOf G.arcs (s :: l)).Nodup := Chn.nodup (.cons h1 h2)
    have nd2 : (G.arcs.fr s :: nodesOf G.arcs l).Nodup := h2.nodup
    have hft : G.arcs.fr t ∈ nodesOf G.arcs l := List.mem_map_of_mem ht
    rcases eNo_eq ((hL t).1 (hl t ht)).1.1 hs1.1 e with rfl | rfl
    · exact (List.nodup_cons.1 nd2).1 hft
    · have e4 : G.arcs.fr (-s) = G.arcs.to s := by
        have e5 : eNo (-s) = eNo s := e
        have := hs1.1
        simp only [NetG.arcs, e5]
        split <;> split <;> first | rfl | omega
      rw [e4, e2] at hft
      refine (List.nodup_cons.1 nd).1 ?_
      simp only [nodesOf, List.map_cons]
      exact List.mem_cons_of_mem _ hft
theorem chn_end {G : NetG} {b : Nat → Option Int} {N : Nat} (hb : ∀ v, v < N → ∀ s, b v = some s → G.arcs.to s = v ∧ G.arcs.fr s < N) {v : Nat} {l : List Int} {r : Nat} (hc : Chn G.arcs b v l r) (w : Nat) : v < N → sumEnd G w l = one r w - one v w := by
  induction hc with
  | nil _ => intro _; simp only [sumEnd]; omega
  | @cons v s l r h1 h2 ih =>
    intro hv
    obtain ⟨e1, e2⟩ := hb v hv s h1
    simp only [sumEnd]
    rw [ih e2, e1]; omega
/-! barriers -/
def sumS (x : Nat → Int) (S : Nat → Bool) (N : Nat) : Int := sumN (fun v => if S v then x v else 0) N
def NetG.cut (G : NetG) (S : Nat → Bool) : Int := sumN (fun k => if S (G.fr k) && !S (G.to k) then G.wd k else 0) G.K
theorem sumS_out {G : NetG} {N : Nat} (hG : G.Fine N) (f : Nat → Int) (S : Nat → Bool) : sumS (G.out f) S N = sumN (fun k => f k * ((if S (G.fr k) then 1 else 0) - (if S (G.to k) then 1 else 0))) G.K := by
  have := sum_out hG (fun v => if S v then 1 else 0) f
  rw [← this]
  unfold sumS
  exact sumN_congr fun v _ => by split <;> omega
theorem out_le_cut {G : NetG} {N : Nat} (hG : G.Fine N) {f : Nat → Int} (hf : G.Fs f) (S : Nat → Bool) : sumS (G.out f) S N ≤ G.cut S := by
  rw [sumS_out hG]
  refine sumN_le fun k hk => ?_
  have h1 := hf k hk
  cases S (G.fr k) <;> cases S (G.to k) <;> simp <;> omega
theorem out_eq_cut {G : NetG} {N : Nat} (hG : G.Fine N) {f : Nat → Int} {L : List Int} (hf : G.Fs f) (hL : G.Steps f L) (S : Nat → Bool) (hS : ∀ s ∈ L, S (G.arcs.fr s) = true → S (G.arcs.to s) = true) : sumS (G.out f) S N = G.cut S := by
  rw [sumS_out hG]
  refine sumN_congr fun k hk => ?_
  have h1 := hf k hk
  have h2 : S (G.fr k) = true → S (G.to k) = false → f k = G.wd k := fun a b => Classical.byContradiction fun hn => by
    have := hS _ ((hL _).2 (ok_pos hk (show f k < G.wd k by omega)))
    simp only [NetG.arcs, eNo_pos] at this
    rw [if_neg (by omega), if_neg (by omega)] at this
    rw [this a] at b; simp at b
  have h3 : S (G.to k) = true → S (G.fr k) = false → f k = 0 := fun a b => Classical.byContradiction fun hn => by
    have := hS _ ((hL _).2 (ok_neg hk (show 0 < f k by omega)))
    simp only [NetG.arcs, eNo_neg] at this
    rw [if_pos (by omega), if_pos (by omega)] at this
    rw [this a] at b; simp at b
  cases e1 : S (G.fr k) <;> cases e2 : S (G.to k) <;> simp [e1, e2] at h2 h3 ⊢ <;> omega
end Go.Proofs.Ytbejgbflipoboaa
/- Plain words of flows: one unit more along a chain; what is left when no chain leads on. No program in sight. -/
namespace Go.Proofs.Ytbejgbflipoboaa

/-- a flow with prices, and what it leaves of an excess -/
structure ShipInv (G : NetG) (N : Nat) (x f l : Nat → Int) : Prop where
  fs : G.Fs f
  out : ∀ v, v < N → G.out f v + l v = x v
  pot : ∃ p : Nat → Int, ∀ s, G.Ok f s → p (G.arcs.to s) ≤ G.arcs.ln s + p (G.arcs.fr s)
theorem pot_of {G : NetG} {f p : Nat → Int} {L : List Int} (hL : G.Steps f L) (h : ∀ s, G.Ok f s → p (G.arcs.to s) ≤ G.arcs.ln s + p (G.arcs.fr s)) : G.arcs.Pot L p := fun s hs => h s ((hL s).1 hs)
theorem of_pot {G : NetG} {f p : Nat → Int} {L : List Int} (hL : G.Steps f L) (h : G.arcs.Pot L p) : ∀ s, G.Ok f s → p (G.arcs.to s) ≤ G.arcs.ln s + p (G.arcs.fr s) := fun s hs => h s ((hL s).2 hs)
theorem ship_zero {G : NetG} {N : Nat} (x : Nat → Int) (hw : ∀ k, k < G.K → 0 ≤ G.wd k) (hl : ∀ k, k < G.K → 0 ≤ G.ln k) : ShipInv G N x (fun _ => 0) x := by
  refine ⟨fun k hk => ⟨Int.le_refl _, hw k hk⟩, fun v _ => ?_, fun _ => 0, fun s hs => ?_⟩
  · have : G.out (fun _ => 0) v = 0 := by
      unfold NetG.out
      rw [sumN_congr (g := fun _ => 0) (fun k _ => by simp)]
      exact sumN_zero _
    omega
  · have h1 := hl _ (eNo_lt hs.1)
    have h2 := hs.2
    simp only [NetG.arcs]
    split at h2
    · exact absurd h2 (by simp)
    · rename_i h; rw [if_neg h]; omega
/-- labels stay far below far -/
theorem LEnd.near {G : NetG} {far : Int} {N : Nat} {L : List Int} {p first at_ : Nat → Int} {b : Nat → Option Int} (h : LEnd G.arcs far N L p first at_ b) (hL : G.arcs.In N L) {K : Int} (hK : 0 ≤ K) (hl : ∀ s ∈ L, -K ≤ G.arcs.ln s ∧ G.arcs.ln s ≤ K) (hfirst : ∀ v, v < N → first v = far ∨ first v = 0) (hfar : N * K < far) :
    (∀ v, v < N → at_ v < far → -((N - 1) * K) ≤ at_ v ∧ at_ v ≤ (N - 1) * K) ∧ ∀ s ∈ L, at_ (G.arcs.fr s) < far → at_ (G.arcs.to s) < far := by
  have h1 : ∀ v, v < N → at_ v < far → -((N - 1) * K) ≤ at_ v ∧ at_ v ≤ (N - 1) * K := fun v hv hf => by
    obtain ⟨r, r1, r2, r3, r4, r5, r6⟩ := h.bd hL hK hl hv
    have := r4 hf
    rcases hfirst r r1 with e | e
    · omega
    · rw [e] at r5 r6; omega
  refine ⟨h1, fun s hs hf => ?_⟩
  have h2 := h1 _ (hL s hs).1 hf
  have h3 := h.sat s hs hf
  have h4 := hl s hs
  have h5 : ((N : Int) - 1) * K = N * K - K := by rw [Int.sub_mul]; omega
  omega
theorem ship_more {G : NetG} {far : Int} {N : Nat} (hG : G.Fine N) {x f l : Nat → Int} (h : ShipInv G N x f l) {L : List Int} (hL : G.Steps f L) {p first at_ : Nat → Int} {b : Nat → Option Int} (hp : G.arcs.Pot L p) (hE : LEnd G.arcs far N L p first at_ b)
    {K : Int} (hK : 0 ≤ K) (hl : ∀ s ∈ L, -K ≤ G.arcs.ln s ∧ G.arcs.ln s ≤ K) (hfar : N * K < far) (hfirst : ∀ v, v < N → first v = far ∨ (first v = 0 ∧ 0 < l v))
    {best : Nat} (hb : best < N) (hb2 : at_ best < far) : ∃ c r, Chn G.arcs b best c r ∧ r < N ∧ 0 < l r ∧ c.length + 1 ≤ N ∧ ShipInv G N x (turnsG f c) (fun v => l v + one best v - one r v) := by
  have hin := steps_in hG hL
  obtain ⟨c, r, hc⟩ := hE.ends best hb
  obtain ⟨h1, h2, h3, h4, h5⟩ := hE.tele hin hb hc
  obtain ⟨_, hn2⟩ := hE.near hin hK hl (fun v hv => (hfirst v hv).imp id (fun h => h.1)) hfar
  have hr : 0 < l r := by
    have := h5 hb2
    rcases hfirst r h2 with e | e
    · omega
    · exact e.2
  have hedge : ∀ v, v < N → ∀ s, b v = some s → s ∈ L ∧ G.arcs.to s = v ∧ G.arcs.fr s < N := fun v hv s hs => by
    obtain ⟨e1, e2, _⟩ := hE.edge v hv s hs
    exact ⟨e1, e2, (hin s e1).1⟩
  have hok : ∀ s ∈ c, G.Ok f s := fun s hs => (hL s).1 (h3 s hs)
  have hnd := chn_roads hL hedge hc hb
  have hfs := turnsG_fs h.fs hok hnd
  refine ⟨c, r, hc, h2, hr, hc.short hin hb h3, hfs, fun v hv => ?_, ?_⟩
  · rw [turnsG_out v c f (fun s hs => (hok s hs).1), chn_end (fun v hv s hs => (hedge v hv s hs).2) hc v hb]
    have := h.out v hv
    omega
  · refine ⟨capP far p at_ (at_ best - p best), fun s hs => ?_⟩
    have hpot := capP_pot (c := at_ best - p best) hE.sat hp hn2
    have htight := capP_tight hE hin hp hb hb2 hc
    by_cases hm : eNo s ∈ c.map eNo
    · obtain ⟨t, htl, e⟩ := List.mem_map.1 hm
      have h3 := htight t htl
      rcases eNo_eq (hok t htl).1.1 hs.1.1 e with rfl | rfl
      · omega
      · have e2 : eNo (-s) = eNo s := e
        have := hs.1.1
        simp only [NetG.arcs, e2] at h3 ⊢
        by_cases hneg : s < 0
        · rw [if_neg (by omega), if_neg (by omega), if_neg (by omega)] at h3
          rw [if_pos hneg, if_pos hneg, if_pos hneg]; omega
        · rw [if_pos (by omega), if_pos (by omega), if_pos (by omega)] at h3
          rw [if_neg hneg, if_neg hneg, if_neg hneg]; omega
    · obtain ⟨q1, q2⟩ := hs
      rw [turnsG_other c f _ hm] at q2
      exact hpot s ((hL s).2 ⟨q1, q2⟩)
def NetG.Dam (G : NetG) (N : Nat) (x : Nat → Int) (S : Nat → Bool) : Prop := G.cut S < sumS x S N
theorem dam_none {G : NetG} {N : Nat} (hG : G.Fine N) {x : Nat → Int} {S : Nat → Bool} (h : G.Dam N x S) {g : Nat → Int} (hg : G.Fs g) : ¬ ∀ v, v < N → G.out g v = x v := fun ho => by
  have h1 := out_le_cut hG hg S
  have h2 : sumS (G.out g) S N = sumS x S N := sumN_congr fun v hv => by rw [ho v hv]
  unfold NetG.Dam at h
  omega
theorem sumS_add (f g : Nat → Int) (S : Nat → Bool) (N : Nat) : sumS (fun v => f v + g v) S N = sumS f S N + sumS g S N := by
  unfold sumS
  rw [← sumN_add]
  exact sumN_congr fun v _ => by cases S v <;> simp
theorem sumN_term {f : Nat → Int} {n : Nat} (h : ∀ i, i < n → 0 ≤ f i) {a : Nat} (ha : a < n) : f a ≤ sumN f n := by
  have h1 := sumN_pick f a n
  rw [if_pos ha] at h1
  rw [← h1]
  exact sumN_le fun i hi => by have := h i hi; split <;> omega
/-- no chain leads on: what is reached is a barrier -/
theorem ship_stuck {G : NetG} {far : Int} {N : Nat} (hG : G.Fine N) {x f l : Nat → Int} (h : ShipInv G N x f l) {L : List Int} (hL : G.Steps f L) {p first at_ : Nat → Int} {b : Nat → Option Int} (hE : LEnd G.arcs far N L p first at_ b)
    {K : Int} (hK : 0 ≤ K) (hl : ∀ s ∈ L, -K ≤ G.arcs.ln s ∧ G.arcs.ln s ≤ K) (hfar : N * K < far) (hfirst : ∀ v, v < N → first v = far ∨ (first v = 0 ∧ 0 < l v))
    (hno : ∀ v, v < N → l v < 0 → ¬ at_ v < far) {a : Nat} (ha : a < N) (ha2 : first a = 0) : G.Dam N x (fun v => decide (at_ v < far)) := by
  have hin := steps_in hG hL
  obtain ⟨_, hn2⟩ := hE.near hin hK hl (fun v hv => (hfirst v hv).imp id (fun h => h.1)) hfar
  have hfar0 : 0 < far := by have : 0 ≤ (N : Int) * K := Int.mul_nonneg (by omega) hK; omega
  have h1 := out_eq_cut hG h.fs hL (fun v => decide (at_ v < far)) (fun s hs => by simp only [decide_eq_true_eq]; exact hn2 s hs)
  have h2 : sumS x (fun v => decide (at_ v < far)) N = sumS (G.out f) (fun v => decide (at_ v < far)) N + sumS l (fun v => decide (at_ v < far)) N := by
    rw [← sumS_add]
    exact sumN_congr fun v hv => by simp only [h.out v hv]
  have h3 : l a ≤ sumS l (fun v => decide (at_ v < far)) N := by
    have hle := hE.le a ha
    have := sumN_term (f := fun v => if decide (at_ v < far) then l v else 0) (n := N) (fun v hv => by
      by_cases hc : at_ v < far
      · have := hno v hv
        rw [if_pos (by simpa using hc)]
        omega
      · rw [if_neg (by simpa using hc)]; omega) ha
    rw [if_pos (by simp; omega)] at this
    exact this
  have h4 : 0 < l a := by
    rcases hfirst a ha with e | e
    · omega
    · exact e.2
  unfold NetG.Dam
  omega
/-- how much is too much -/
def over (l : Nat → Int) (N : Nat) : Int := sumN (fun v => max (l v) 0) N
theorem over_nonneg (l : Nat → Int) (N : Nat) : 0 ≤ over l N := sumN_nonneg fun v _ => by omega
theorem over_step {l : Nat → Int} {N best r : Nat} (hb : l best < 0) (hr : 0 < l r) (hrN : r < N) : over (fun v => l v + one best v - one r v) N = over l N - 1 := by
  unfold over
  have h1 := sum_one (fun _ => 1) hrN
  have key : ∀ v, max (l v + one best v - one r v) 0 = max (l v) 0 + (-1) * (1 * one r v) := fun v => by
    unfold one
    by_cases e1 : best = v
    · by_cases e2 : r = v
      · subst e1; subst e2; omega
      · subst e1; rw [if_pos rfl, if_neg e2]; omega
    · by_cases e2 : r = v
      · subst e2; rw [if_neg e1, if_pos rfl]; omega
      · rw [if_neg e1, if_neg e2]; omega
  rw [sumN_congr (g := fun v => max (l v) 0 + (-1) * (1 * one r v)) (fun v _ => key v), sumN_add, sumN_mul, h1]
  omega
theorem over_zero {l : Nat → Int} {N : Nat} (h : over l N = 0) : ∀ v, v < N → l v ≤ 0 := fun v hv => by
  have := sumN_all0 (f := fun v => max (l v) 0) (n := N) (fun v _ => by omega) (by unfold over at h; omega) v hv
  omega
/-- nothing too much, and no too little: all is moved -/
theorem left_zero {l : Nat → Int} {N : Nat} (h : ∀ v, v < N → l v ≤ 0) (hs : sumN l N = 0) : ∀ v, v < N → l v = 0 := fun v hv => by
  have := sumN_all0 (f := fun v => (-1) * l v) (n := N) (fun v hv => by have := h v hv; omega) (by rw [sumN_mul]; omega) v hv
  omega
theorem out_sum {G : NetG} {N : Nat} (hG : G.Fine N) (f : Nat → Int) : sumN (G.out f) N = 0 := by
  have := sum_out hG (fun _ => 1) f
  rw [sumN_congr (f := fun v => 1 * G.out f v) (g := G.out f) (fun v _ => by omega), sumN_congr (f := fun k => f k * (1 - 1)) (g := fun _ => 0) (fun k _ => by omega), sumN_zero] at this
  exact this
end Go.Proofs.Ytbejgbflipoboaa
/- Plain words of labels along arcs: a last round that still changes something has gone round a way that is shorter than nothing. No program in sight. -/
namespace Go.Proofs.Ytbejgbflipoboaa
section
variable {α : Type} {A : Arcs α} {far : Int}
structure NInv (A : Arcs α) (far : Int) (N : Nat) (L : List α) (r clk : Nat) (st : Lb α) (u t : Nat → Nat) : Prop where
  edge : ∀ v, v < N → ∀ s, st.by_ v = some s → s ∈ L ∧ A.to s = v ∧ st.at_ (A.fr s) + A.ln s + (if u v < u (A.fr s) then 1 else 0) ≤ st.at_ v ∧ t v ≤ t (A.fr s) + 1
  some_ : ∀ v, v < N → 1 ≤ t v → ∃ s, st.by_ v = some s
  tle : ∀ v, v < N → t v ≤ r
  uniq : ∀ v w, v < N → w < N → st.by_ v ≠ none → st.by_ w ≠ none → u v = u w → v = w
  ult : ∀ v, v < N → u v ≤ clk
  old : ∀ s ∈ L, t (A.fr s) + 1 < r → st.at_ (A.to s) ≤ st.at_ (A.fr s) + A.ln s
  near : ∀ v, v < N → st.at_ v < far
theorem ninv_start {N : Nat} {L : List α} {first : Nat → Int} (h : ∀ v, v < N → first v < far) (k : Int) : NInv A far N L 1 0 ⟨first, fun _ => none, k⟩ (fun _ => 0) (fun _ => 0) :=
  ⟨fun v _ s h => by simp at h, fun v _ h => by simp at h, fun _ _ => by omega, fun v w _ _ h => by simp at h, fun _ _ => Nat.le_refl _, fun s _ h => by simp at h, h⟩
theorem ninv_relax {N : Nat} {L : List α} (hL : A.In N L) (hne : ∀ s ∈ L, A.fr s ≠ A.to s) {r clk : Nat} {st : Lb α} {u t : Nat → Nat} (h : NInv A far N L r clk st u t) {s : α} (hs : s ∈ L) (hc : A.Cond far st s) :
    NInv A far N L r (clk + 1) (A.put st s) (upd u (A.to s) (clk + 1)) (upd t (A.to s) r) := by
  have c1 := hc.1
  have c2 := hc.2
  have hs1 := hL s hs
  have hs2 := hne s hs
  have hu := h.ult _ hs1.1
  refine ⟨fun v hv q hq => ?_, fun v hv hq => ?_, fun v hv => ?_, fun v w hv hw h1 h2 h3 => ?_, fun v hv => ?_, fun q hq h1 => ?_, fun v hv => ?_⟩
  · have hq : upd st.by_ (A.to s) (some s) v = some q := hq
    show q ∈ L ∧ A.to q = v ∧ upd st.at_ (A.to s) (st.at_ (A.fr s) + A.ln s) (A.fr q) + A.ln q + (if upd u (A.to s) (clk + 1) v < upd u (A.to s) (clk + 1) (A.fr q) then 1 else 0) ≤ upd st.at_ (A.to s) (st.at_ (A.fr s) + A.ln s) v ∧ upd t (A.to s) r v ≤ upd t (A.to s) r (A.fr q) + 1
    by_cases e : v = A.to s
    · subst e
      rw [upd_same] at hq
      cases hq
      rw [upd_same, upd_same, upd_same, upd_ne hs2, upd_ne hs2, upd_ne hs2, if_neg (by omega)]
      refine ⟨hs, rfl, by omega, ?_⟩
      refine Classical.byContradiction fun hn => ?_
      have := h.old s hs (by omega)
      omega
    · rw [upd_ne e] at hq
      obtain ⟨e1, e2, e3, e4⟩ := h.edge v hv q hq
      have hvu := h.ult v hv
      rw [upd_ne e, upd_ne e, upd_ne e]
      by_cases e5 : A.fr q = A.to s
      · have e6 := h.tle _ hs1.2
        rw [e5] at e3 e4 ⊢
        rw [upd_same, upd_same, upd_same, if_pos (by omega)]
        refine ⟨e1, e2, ?_, by omega⟩
        split at e3 <;> omega
      · rw [upd_ne e5, upd_ne e5, upd_ne e5]
        exact ⟨e1, e2, e3, e4⟩
  · have hq : 1 ≤ upd t (A.to s) r v := hq
    show ∃ q, upd st.by_ (A.to s) (some s) v = some q
    by_cases e : v = A.to s
    · subst e; exact ⟨s, by rw [upd_same]⟩
    · rw [upd_ne e] at hq ⊢; exact h.some_ v hv hq
  · by_cases e : v = A.to s
    · subst e; rw [upd_same]; exact Nat.le_refl _
    · rw [upd_ne e]; exact h.tle v hv
  · have h1 : upd st.by_ (A.to s) (some s) v ≠ none := h1
    have h2 : upd st.by_ (A.to s) (some s) w ≠ none := h2
    have u1 := h.ult v hv
    have u2 := h.ult w hw
    by_cases e1 : v = A.to s
    · by_cases e2 : w = A.to s
      · rw [e1, e2]
      · rw [e1, upd_same, upd_ne e2] at h3; omega
    · by_cases e2 : w = A.to s
      · rw [e2, upd_same, upd_ne e1] at h3; omega
      · rw [upd_ne e1] at h1 h3
        rw [upd_ne e2] at h2 h3
        exact h.uniq v w hv hw h1 h2 h3
  · by_cases e : v = A.to s
    · subst e; rw [upd_same]; exact Nat.le_refl _
    · rw [upd_ne e]; have := h.ult v hv; omega
  · show upd st.at_ _ _ _ ≤ upd st.at_ _ _ _ + _
    by_cases e : A.fr q = A.to s
    · rw [e, upd_same] at h1; omega
    · rw [upd_ne e] at h1 ⊢
      have := h.old q hq h1
      by_cases e2 : A.to q = A.to s
      · rw [e2] at this ⊢; rw [upd_same]; omega
      · rw [upd_ne e2]; exact this
  · show upd st.at_ _ _ v < far
    have := h.near v hv
    by_cases e : v = A.to s
    · subst e; rw [upd_same]; omega
    · rw [upd_ne e]; exact this
theorem ninv_fold {N : Nat} {L : List α} (hL : A.In N L) (hne : ∀ s ∈ L, A.fr s ≠ A.to s) {r : Nat} : ∀ (l done : List α), (∀ s ∈ l, s ∈ L) → ∀ (clk : Nat) (st : Lb α) (u t : Nat → Nat), NInv A far N L r clk st u t → (∀ s ∈ done, t (A.fr s) < r → st.at_ (A.to s) ≤ st.at_ (A.fr s) + A.ln s) → (0 ≤ st.last → ∃ v, v < N ∧ st.last = v ∧ t v = r) →
    ∃ clk' u' t', NInv A far N L r clk' (l.foldl (A.relax far) st) u' t' ∧ (∀ s, s ∈ done ∨ s ∈ l → t' (A.fr s) < r → (l.foldl (A.relax far) st).at_ (A.to s) ≤ (l.foldl (A.relax far) st).at_ (A.fr s) + A.ln s) ∧ (0 ≤ (l.foldl (A.relax far) st).last → ∃ v, v < N ∧ (l.foldl (A.relax far) st).last = v ∧ t' v = r)
  | [], done, _, clk, st, u, t, h, hd, hl => ⟨clk, u, t, h, fun s hs => hd s (by rcases hs with hs | hs; exact hs; simp at hs), hl⟩
  | s :: l, done, hl, clk, st, u, t, h, hd, hla => by
    have hs := hl s List.mem_cons_self
    rw [List.foldl_cons]
    have key : ∃ clk' u' t', NInv A far N L r clk' (A.relax far st s) u' t' ∧ (∀ q ∈ s :: done, t' (A.fr q) < r → (A.relax far st s).at_ (A.to q) ≤ (A.relax far st s).at_ (A.fr q) + A.ln q) ∧ (0 ≤ (A.relax far st s).last → ∃ v, v < N ∧ (A.relax far st s).last = v ∧ t' v = r) := by
      by_cases hc : A.Cond far st s
      · have hrl : A.relax far st s = A.put st s := by unfold Arcs.relax; rw [if_pos hc]
        rw [hrl]
        refine ⟨_, _, _, ninv_relax hL hne h hs hc, fun q hq h1 => ?_, fun _ => ⟨A.to s, (hL s hs).2, rfl, upd_same _ _ _⟩⟩
        have hne2 := hne s hs
        show upd st.at_ _ _ _ ≤ upd st.at_ _ _ _ + _
        rcases List.mem_cons.1 hq with rfl | hq
        · rw [upd_same, upd_ne hne2]; exact Int.le_refl _
        · by_cases e : A.fr q = A.to s
          · rw [e, upd_same] at h1; omega
          · rw [upd_ne e] at h1 ⊢
            have := hd q hq h1
            have c2 := hc.2
            by_cases e2 : A.to q = A.to s
            · rw [e2] at this ⊢; rw [upd_same]; omega
            · rw [upd_ne e2]; exact this
      · rw [relax_idle hc]
        refine ⟨clk, u, t, h, fun q hq h1 => ?_, hla⟩
        rcases List.mem_cons.1 hq with rfl | hq
        · have := h.near _ (hL _ hs).1
          unfold Arcs.Cond at hc
          omega
        · exact hd q hq h1
    obtain ⟨clk', u', t', k1, k2, k3⟩ := key
    obtain ⟨c2, u2, t2, m1, m2, m3⟩ := ninv_fold hL hne l (s :: done) (fun q hq => hl q (List.mem_cons_of_mem _ hq)) clk' _ u' t' k1 k2 k3
    refine ⟨c2, u2, t2, m1, fun q hq => m2 q ?_, m3⟩
    rcases hq with hq | hq
    · exact .inl (List.mem_cons_of_mem _ hq)
    · rcases List.mem_cons.1 hq with rfl | hq
      · exact .inl List.mem_cons_self
      · exact .inr hq
theorem ninv_reach {N : Nat} {L : List α} (hL : A.In N L) (hne : ∀ s ∈ L, A.fr s ≠ A.to s) {first : Nat → Int} (h : ∀ v, v < N → first v < far) (k0 : Int) : ∀ k, ∃ clk u t, NInv A far N L (k + 1) clk (A.reach far L ⟨first, fun _ => none, k0⟩ k) u t ∧ (1 ≤ k → 0 ≤ (A.reach far L ⟨first, fun _ => none, k0⟩ k).last → ∃ v, v < N ∧ (A.reach far L ⟨first, fun _ => none, k0⟩ k).last = v ∧ k ≤ t v)
  | 0 => ⟨0, _, _, ninv_start h k0, fun h => by omega⟩
  | k + 1 => by
    obtain ⟨clk, u, t, h1, _⟩ := ninv_reach hL hne h k0 k
    obtain ⟨c2, u2, t2, m1, m2, m3⟩ := ninv_fold (A := A) (far := far) hL hne L [] (fun _ h => h) clk { A.reach far L ⟨first, fun _ => none, k0⟩ k with last := -1 } u t ⟨h1.edge, h1.some_, h1.tle, h1.uniq, h1.ult, h1.old, h1.near⟩ (fun s hs => by simp at hs) (fun h => by simp at h)
    refine ⟨c2, u2, t2, ⟨m1.edge, m1.some_, fun v hv => by have := m1.tle v hv; omega, m1.uniq, m1.ult, fun s hs ht => m2 s (.inr hs) (by omega), m1.near⟩, fun _ hl => ?_⟩
    obtain ⟨v, hv, e, e2⟩ := m3 hl
    exact ⟨v, hv, e, by omega⟩
/-- the node before -/
def predO (A : Arcs α) (b : Nat → Option α) (v : Nat) : Nat := match b v with | some s => A.fr s | none => v
def predK (A : Arcs α) (b : Nat → Option α) (v : Nat) : Nat → Nat
  | 0 => v
  | k + 1 => predO A b (predK A b v k)
theorem predK_add (b : Nat → Option α) (v i : Nat) : ∀ j, predK A b v (i + j) = predK A b (predK A b v i) j
  | 0 => rfl
  | j + 1 => by rw [← Nat.add_assoc]; simp only [predK]; rw [predK_add b v i j]
/-- a round: the arcs back from a node to itself, with no node twice -/
structure Cyc (A : Arcs α) (b : Nat → Option α) (c : Nat → Nat) (l : List α) : Prop where
  len : 1 ≤ l.length
  back : c l.length = c 0
  step : ∀ y, (h : y < l.length) → b (c y) = some l[y] ∧ A.fr l[y] = c (y + 1)
  dist : ∀ i j, i < j → j < l.length → c i ≠ c j
theorem pigeon {N : Nat} (f : Nat → Nat) (h : ∀ i, i ≤ N → f i < N) : ∃ i j, i < j ∧ j ≤ N ∧ f i = f j := by
  refine Classical.byContradiction fun hn => ?_
  have : ((List.range (N + 1)).map f).Nodup := by
    rw [List.Nodup, List.pairwise_map]
    refine List.Pairwise.imp_of_mem ?_ List.pairwise_lt_range
    intro a b ha hb hab e
    exact hn ⟨a, b, hab, by have := List.mem_range.1 hb; omega, e⟩
  have h2 := range_len (N := N) this (fun x hx => by
    obtain ⟨i, hi, rfl⟩ := List.mem_map.1 hx
    exact h i (by have := List.mem_range.1 hi; omega))
  simp at h2
  omega
theorem least_nat {p : Nat → Prop} : ∀ n, p n → ∃ m, p m ∧ m ≤ n ∧ ∀ k, k < m → ¬ p k := by
  intro n
  induction n using Nat.strongRecOn with
  | _ n ih =>
    intro h
    by_cases hk : ∃ k, k < n ∧ p k
    · obtain ⟨k, h1, h2⟩ := hk
      obtain ⟨m, a, b, c⟩ := ih k h1 h2
      exact ⟨m, a, by omega, c⟩
    · exact ⟨n, h, Nat.le_refl _, fun k h1 h2 => hk ⟨k, h1, h2⟩⟩
theorem cyc_of {b : Nat → Option α} {c d : Nat} (hd : 1 ≤ d) (hb : predK A b c d = c) (hs : ∀ y, y < d → ∃ s, b (predK A b c y) = some s) : ∃ l, Cyc A b (predK A b c) l ∧ l.length ≤ d := by
  obtain ⟨m, ⟨m1, m2⟩, m3, m4⟩ := least_nat (p := fun d => 1 ≤ d ∧ predK A b c d = c) d ⟨hd, hb⟩
  have hl : ∀ k, k ≤ m → ∃ l : List α, l.length = k ∧ ∀ y, (h : y < l.length) → b (predK A b c y) = some l[y] := by
    intro k
    induction k with
    | zero => intro _; exact ⟨[], rfl, fun y h => by simp at h⟩
    | succ k ih =>
      intro hk
      obtain ⟨l, h1, h2⟩ := ih (by omega)
      obtain ⟨s, hs⟩ := hs k (by omega)
      refine ⟨l ++ [s], by simp [h1], fun y hy => ?_⟩
      by_cases e : y < l.length
      · rw [List.getElem_append_left e]; exact h2 y e
      · obtain rfl : y = l.length := by simp at hy; omega
        rw [List.getElem_append_right (Nat.le_refl _)]; simp [h1, hs]
  obtain ⟨l, h1, h2⟩ := hl m (Nat.le_refl _)
  refine ⟨l, ⟨by omega, by rw [h1]; exact m2, fun y hy => ⟨h2 y hy, ?_⟩, fun i j hij hj e => ?_⟩, by omega⟩
  · simp only [predK, predO]; rw [h2 y hy]
  · refine m4 (m - j + i) (by omega) ⟨by omega, ?_⟩
    rw [show m - j + i = i + (m - j) by omega, predK_add, e, ← predK_add, show j + (m - j) = m by omega]
    exact m2
theorem Cyc.lt {b : Nat → Option α} {c : Nat → Nat} {l : List α} (h : Cyc A b c l) {N : Nat} (h0 : c 0 < N) (hb : ∀ v, v < N → ∀ s, b v = some s → A.fr s < N) : ∀ y, y ≤ l.length → c y < N
  | 0, _ => h0
  | y + 1, hy => by
    obtain ⟨h1, h2⟩ := h.step y (by omega)
    rw [← h2]
    exact hb _ (h.lt h0 hb y (by omega)) _ h1
theorem sumLn_append (l m : List α) : sumLn A (l ++ m) = sumLn A l + sumLn A m := by
  induction l with
  | nil => simp [sumLn]
  | cons s l ih => simp only [List.cons_append, sumLn]; rw [ih]; omega
/-- such a round is shorter than nothing -/
theorem cyc_neg {N : Nat} {L : List α} (hL : A.In N L) (hne : ∀ s ∈ L, A.fr s ≠ A.to s) {r clk : Nat} {st : Lb α} {u t : Nat → Nat} (h : NInv A far N L r clk st u t) {c : Nat → Nat} {l : List α} (hc : Cyc A st.by_ c l) (h0 : c 0 < N) : sumLn A l < 0 := by
  have hlt := hc.lt h0 (fun v hv s hs => (hL s (h.edge v hv s hs).1).1)
  have key : ∀ k, k ≤ l.length → st.at_ (c k) + sumLn A (l.take k) < st.at_ (c 0) ∨ (st.at_ (c k) + sumLn A (l.take k) ≤ st.at_ (c 0) ∧ u (c k) ≤ u (c (min k 1)) ∧ u (c (min k 1)) ≤ u (c 0)) := by
    intro k
    induction k with
    | zero => intro _; exact .inr ⟨by simp [sumLn], Nat.le_refl _, Nat.le_refl _⟩
    | succ k ih =>
      intro hk
      obtain ⟨s1, s2⟩ := hc.step k (by omega)
      obtain ⟨e1, e2, e3, e4⟩ := h.edge _ (hlt k (by omega)) _ s1
      rw [s2] at e3 e4
      have hsum : sumLn A (l.take (k + 1)) = sumLn A (l.take k) + A.ln l[k] := by
        rw [List.take_succ_eq_append_getElem (by omega), sumLn_append]; simp [sumLn]
      rw [hsum]
      by_cases hu : u (c k) < u (c (k + 1))
      · rw [if_pos hu] at e3
        rcases ih (by omega) with ih | ⟨ih, _⟩
        · exact .inl (by omega)
        · exact .inl (by omega)
      · rw [if_neg hu] at e3
        rcases ih (by omega) with ih | ⟨ih, i2, i3⟩
        · exact .inl (by omega)
        · refine .inr ⟨by omega, ?_, ?_⟩
          · rw [show min (k + 1) 1 = 1 by omega]
            by_cases e : k = 0
            · subst e; exact Nat.le_refl _
            · rw [show min k 1 = 1 by omega] at i2; omega
          · rw [show min (k + 1) 1 = 1 by omega]
            by_cases e : k = 0
            · subst e; simp at hu; omega
            · rw [show min k 1 = 1 by omega] at i3; exact i3
  have hl := hc.len
  rcases key l.length (Nat.le_refl _) with k | ⟨k1, k2, k3⟩
  · rw [List.take_length, hc.back] at k; omega
  · rw [hc.back, show min l.length 1 = 1 by omega] at k2
    rw [show min l.length 1 = 1 by omega] at k3
    obtain ⟨s1, s2⟩ := hc.step 0 (by omega)
    obtain ⟨e1, e2, _⟩ := h.edge _ h0 _ s1
    have hs1 : st.by_ (c 0) ≠ none := by rw [s1]; simp
    have e10 : c 1 = c 0 := by
      by_cases e : l.length = 1
      · have := hc.back; rw [e] at this; exact this
      · obtain ⟨t1, _⟩ := hc.step 1 (by omega)
        exact h.uniq _ _ (hlt 1 (by omega)) h0 (by rw [t1]; simp) hs1 (by omega)
    exact absurd (by rw [s2, e2]; exact e10) (hne _ e1)
/-- the last round has changed something: going back as often as there are nodes ends on a round that is shorter than nothing -/
theorem reach_cyc {N : Nat} (hN : 1 ≤ N) {L : List α} (hL : A.In N L) (hne : ∀ s ∈ L, A.fr s ≠ A.to s) {first : Nat → Int} (h : ∀ v, v < N → first v < far) (k0 : Int) (hl : 0 ≤ (A.reach far L ⟨first, fun _ => none, k0⟩ N).last) :
    ∃ v, v < N ∧ (A.reach far L ⟨first, fun _ => none, k0⟩ N).last = v ∧ (∀ y, y < N → (∃ s, (A.reach far L ⟨first, fun _ => none, k0⟩ N).by_ (predK A (A.reach far L ⟨first, fun _ => none, k0⟩ N).by_ v y) = some s)) ∧ (∀ y, y ≤ N → predK A (A.reach far L ⟨first, fun _ => none, k0⟩ N).by_ v y < N) ∧
      ∃ l, Cyc A (A.reach far L ⟨first, fun _ => none, k0⟩ N).by_ (predK A (A.reach far L ⟨first, fun _ => none, k0⟩ N).by_ (predK A (A.reach far L ⟨first, fun _ => none, k0⟩ N).by_ v N)) l ∧ l.length ≤ N ∧ sumLn A l < 0 ∧ ∀ s ∈ l, s ∈ L := by
  obtain ⟨clk, u, t, hI, hv⟩ := ninv_reach (A := A) (far := far) hL hne h k0 N
  obtain ⟨v, v1, v2, v3⟩ := hv hN hl
  generalize A.reach far L ⟨first, fun _ => none, k0⟩ N = st at *
  have walk : ∀ y, y ≤ N → predK A st.by_ v y < N ∧ N ≤ t (predK A st.by_ v y) + y := by
    intro y
    induction y with
    | zero => intro _; exact ⟨v1, by simpa [predK] using v3⟩
    | succ y ih =>
      intro hy
      obtain ⟨i1, i2⟩ := ih (by omega)
      obtain ⟨s, hs⟩ := hI.some_ _ i1 (by omega)
      obtain ⟨e1, e2, e3, e4⟩ := hI.edge _ i1 _ hs
      have : predK A st.by_ v (y + 1) = A.fr s := by simp only [predK, predO]; rw [hs]
      rw [this]
      exact ⟨(hL s e1).1, by omega⟩
  have hsome : ∀ y, y < N → ∃ s, st.by_ (predK A st.by_ v y) = some s := fun y hy => by
    obtain ⟨i1, i2⟩ := walk y (by omega)
    exact hI.some_ _ i1 (by omega)
  refine ⟨v, v1, v2, hsome, fun y hy => (walk y hy).1, ?_⟩
  obtain ⟨i, j, hij, hj, e⟩ := pigeon (predK A st.by_ v) (fun i hi => (walk i hi).1)
  -- d = j - i: the last d nodes are a round
  have hshift : predK A st.by_ v (N - (j - i)) = predK A st.by_ v N := by
    rw [show N - (j - i) = i + (N - j) by omega, predK_add, e, ← predK_add, show j + (N - j) = N by omega]
  have hback : predK A st.by_ (predK A st.by_ v N) (j - i) = predK A st.by_ v N := by
    rw [← hshift, ← predK_add, show N - (j - i) + (j - i) = N by omega, hshift]
  obtain ⟨l, hc, hlen⟩ := cyc_of (A := A) (b := st.by_) (by omega : 1 ≤ j - i) hback (fun y hy => by
    rw [← hshift, ← predK_add]; exact hsome _ (by omega))
  have h0 : predK A st.by_ (predK A st.by_ v N) 0 < N := (walk N (Nat.le_refl _)).1
  refine ⟨l, hc, by omega, cyc_neg hL hne hI hc h0, fun s hs => ?_⟩
  obtain ⟨y, hy, rfl⟩ := List.getElem_of_mem hs
  have hlt := hc.lt h0 (fun v hv s hs => (hL s (hI.edge v hv s hs).1).1)
  exact (hI.edge _ (hlt y (by omega)) _ (hc.step y hy).1).1
end
/-! rounds of flows -/
theorem sumLn_two {α : Type} {A : Arcs α} (l : List α) (h : l.length = 2) : sumLn A l = A.ln (l[0]'(by omega)) + A.ln (l[1]'(by omega)) := by
  match l, h with
  | [x, y], _ => simp [sumLn]
theorem cyc_roads {G : NetG} {b : Nat → Option Int} {c : Nat → Nat} {l : List Int} (h : Cyc G.arcs b c l) (hto : ∀ y, (hy : y < l.length) → G.arcs.to l[y] = c y) (hst : ∀ s ∈ l, G.IsStep s) (hneg : sumLn G.arcs l < 0) : (l.map eNo).Nodup := by
  rw [List.Nodup, List.pairwise_map, List.pairwise_iff_getElem]
  intro i j hi hj hij e
  have si := h.step i hi
  have sj := h.step j hj
  have ti := hto i hi
  have tj := hto j hj
  rcases eNo_eq (hst _ (List.getElem_mem hi)).1 (hst _ (List.getElem_mem hj)).1 e with e2 | e2
  · rw [e2, tj] at ti
    exact h.dist i j hij hj ti.symm
  · have hsj := (hst _ (List.getElem_mem hj)).1
    have e3 : eNo (-l[j]) = eNo l[j] := by rw [← e2]; exact e
    have f1 : G.arcs.fr l[i] = G.arcs.to l[j] := by
      rw [e2]; simp only [NetG.arcs, e3]; split <;> split <;> first | rfl | omega
    have f2 : G.arcs.to l[i] = G.arcs.fr l[j] := by
      rw [e2]; simp only [NetG.arcs, e3]; split <;> split <;> first | rfl | omega
    have f3 : G.arcs.ln l[i] = -G.arcs.ln l[j] := by
      rw [e2]; simp only [NetG.arcs, e3]; split <;> split <;> first | rfl | omega
    have a1 : i + 1 = j := Classical.byContradiction fun hn => h.dist (i + 1) j (by omega) hj (by rw [← si.2, f1, tj])
    have a2 : j + 1 = l.length := Classical.byContradiction fun hn => h.dist i (j + 1) (by omega) (by omega) (by rw [← sj.2, ← f2, ti])
    have a3 : i = 0 := Classical.byContradiction fun hn => h.dist 0 i (by omega) hi (by rw [← h.back, ← a2, ← sj.2, ← f2, ti])
    subst a3
    subst a1
    have := sumLn_two (A := G.arcs) l (by omega)
    rw [this] at hneg
    simp only [Nat.zero_add] at f3
    omega
theorem cyc_out {G : NetG} {b : Nat → Option Int} {c : Nat → Nat} {l : List Int} (h : Cyc G.arcs b c l) (hto : ∀ y, (hy : y < l.length) → G.arcs.to l[y] = c y) (v : Nat) : sumEnd G v l = 0 := by
  have app : ∀ (l m : List Int), sumEnd G v (l ++ m) = sumEnd G v l + sumEnd G v m := by
    intro l
    induction l with
    | nil => intro m; simp [sumEnd]
    | cons s l ih => intro m; simp only [List.cons_append, sumEnd]; rw [ih]; omega
  have key : ∀ k, k ≤ l.length → sumEnd G v (l.take k) = one (c k) v - one (c 0) v := by
    intro k
    induction k with
    | zero => intro _; simp [sumEnd]
    | succ k ih =>
      intro hk
      rw [List.take_succ_eq_append_getElem (by omega), app, ih (by omega)]
      simp only [sumEnd]
      rw [(h.step k (by omega)).2, hto k (by omega)]
      omega
  have := key l.length (Nat.le_refl _)
  rw [List.take_length, h.back] at this
  omega
end Go.Proofs.Ytbejgbflipoboaa
/- Plain words of roads: a net of roads as a net of flows; ship ends, and what it hands back is a cheapest flow or leaves a barrier. No program in sight. -/
namespace Go.Proofs.Ytbejgbflipoboaa
open Go.RowKit

def netR (R : List Road) : NetG := ⟨R.length, fun k => (rdK R k).fr.toNat, fun k => (rdK R k).to.toNat, fun k => (rdK R k).ln, fun k => (rdK R k).wd⟩
theorem netR_fine {M : Nat} {R : List Road} (h : NetOk (M : Int) R) : (netR R).Fine M := fun k hk => by
  have h1 := h.fr k hk
  have h2 := h.to k hk
  simp only [netR, rdK_at hk]
  omega
theorem arcR_fr (R : List Road) (s : Int) : (netR R).arcs.fr s = (stFr R s).toNat := by
  simp only [NetG.arcs, netR, stFr, stepNo, eNo]; split <;> rfl
theorem arcR_to (R : List Road) (s : Int) : (netR R).arcs.to s = (stTo R s).toNat := by
  simp only [NetG.arcs, netR, stTo, stepNo, eNo]; split <;> rfl
theorem arcR_ln (R : List Road) (s : Int) : (netR R).arcs.ln s = stLn R s := rfl
theorem stepsTo_mem (R : List Road) (f : List Int) : ∀ (k : Nat) (s : Int), s ∈ stepsTo R f k ↔ (StepIn k s ∧ if s < 0 then 0 < gi f (eNo s) else gi f (eNo s) < (rdK R (eNo s)).wd)
  | 0, s => by simp only [stepsTo, List.not_mem_nil, false_iff]; rintro ⟨h, _⟩; have := h.1; have := h.2; omega
  | k + 1, s => by
    simp only [stepsTo, List.mem_append]
    rw [stepsTo_mem R f k s]
    constructor
    · rintro ((⟨h1, h2⟩ | h) | h)
      · exact ⟨⟨h1.1, by have := h1.2; omega⟩, h2⟩
      · split at h
        · rename_i hc
          simp at h; subst h
          exact ⟨⟨by omega, by omega⟩, by rw [if_neg (by omega), eNo_pos]; exact hc⟩
        · simp at h
      · split at h
        · rename_i hc
          simp at h; subst h
          exact ⟨⟨by omega, by omega⟩, by rw [if_pos (by omega), eNo_neg]; exact hc⟩
        · simp at h
    · rintro ⟨h1, h2⟩
      by_cases hk : max s (-s) ≤ k
      · exact .inl (.inl ⟨⟨h1.1, hk⟩, h2⟩)
      · have h3 := h1.1
        have h4 := h1.2
        by_cases hs : s < 0
        · rw [if_pos hs] at h2
          have e : s = -(k : Int) - 1 := by omega
          subst e
          rw [eNo_neg] at h2
          rw [if_pos h2]
          exact .inr (by simp)
        · rw [if_neg hs] at h2
          have e : s = (k : Int) + 1 := by omega
          subst e
          rw [eNo_pos] at h2
          rw [if_pos h2]
          exact .inl (.inr (by simp))
theorem stepsR (R : List Road) (f : List Int) : (netR R).Steps (gi f) (stepsTo R f R.length) := fun s => stepsTo_mem R f R.length s
theorem sumR_N (f : Nat → Int) : ∀ n, sumR f n = sumN f n
  | 0 => rfl
  | n + 1 => by simp only [sumR, sumN]; rw [sumR_N]
theorem costR (R : List Road) (f : List Int) : costTo R f R.length = (netR R).cost (gi f) := sumR_N _ _
theorem outR {M : Nat} {R : List Road} (h : NetOk (M : Int) R) (f : List Int) (v : Nat) : ∀ j, j ≤ R.length → gi (leaveTo M R f j) v = sumN (fun k => gi f k * (one ((netR R).fr k) v - one ((netR R).to k) v)) j
  | 0, _ => by
    have : gi (List.replicate M 0) v = 0 := by unfold gi; rw [List.getElem?_replicate]; split <;> rfl
    simp only [leaveTo, this, sumN]
  | j + 1, hj => by
    have ih := outR h f v j (by omega)
    have h3 := h.fr j (by omega)
    have h4 := h.to j (by omega)
    simp only [leaveTo, sumN]
    rw [← ih]
    simp only [netR]
    rw [rdK_at (by omega), gi_addAt (by rw [addAt_length, leaveTo_length]; omega), gi_addAt (by rw [leaveTo_length]; omega)]
    unfold one
    split <;> split <;> omega
theorem gi_ext {a b : List Int} {M : Nat} (ha : a.length = M) (hb : b.length = M) (h : ∀ v, v < M → gi a v = gi b v) : a = b := List.ext_getElem (by omega) fun j h1 h2 => by
  have := h j (by omega)
  rwa [gi_at h1, gi_at h2] at this
/-- a flow for an excess, in words of nets -/
def FlowR (M : Nat) (R : List Road) (x f : List Int) : Prop := f.length = R.length ∧ (netR R).Fs (gi f) ∧ ∀ v, v < M → (netR R).out (gi f) v = gi x v
theorem fs_flowB {R : List Road} {f : List Int} (hl : f.length = R.length) : flowB R f = true ↔ (netR R).Fs (gi f) := by
  constructor
  · intro h k hk; exact (flowB_ok h).2 k hk
  · intro h
    refine flowB_yes hl (fun k hk => ?_)
    exact withinB_iff.2 (h k (by rw [hl] at hk; exact hk))
theorem flowErr_iff {M : Nat} {R : List Road} {x f : List Int} (he : excErr (M : Int) R x = 0) : flowErr (M : Int) R x f = 0 ↔ FlowR M R x f := by
  obtain ⟨h1, h2, h3, h4⟩ := excErr_ok he
  have hok := netErr_ok h1
  unfold flowErr
  rw [if_neg (by simpa using he)]
  constructor
  · intro h
    by_cases hb : flowB R f = true
    · rw [if_pos hb] at h
      by_cases hl : leaveTo (M : Int).toNat R f R.length = x
      · refine ⟨(flowB_ok hb).1, (fs_flowB (flowB_ok hb).1).1 hb, fun v hv => ?_⟩
        rw [← hl]
        exact (outR hok f v R.length (Nat.le_refl _)).symm
      · rw [if_neg hl] at h; simp at h
    · rw [if_neg hb] at h; simp at h
  · rintro ⟨a, b, c⟩
    rw [if_pos ((fs_flowB a).2 b), if_pos]
    refine gi_ext (M := M) (by rw [leaveTo_length]; simp) (by omega) (fun v hv => ?_)
    rw [← c v hv]
    exact outR hok f v R.length (Nat.le_refl _)
/-! labels -/
def viewS (st : RS) : Lb Int := ⟨gi st.at_, fun v => if gi st.by_ v = 0 then none else some (gi st.by_ v), st.last⟩
theorem view_relax {M : Nat} {R : List Road} (hok : NetOk (M : Int) R) {st : RS} (h1 : st.at_.length = M) (h2 : st.by_.length = M) {s : Int} (hs : StepIn R.length s) : viewS (relax R st s) = (netR R).arcs.relax farR (viewS st) s ∧ (relax R st s).at_.length = M ∧ (relax R st s).by_.length = M := by
  have ht := stTo_bd hok hs
  have hs0 : s ≠ 0 := fun e => by have := hs.1; rw [e] at this; simp at this
  unfold relax Arcs.relax
  by_cases hc : gi st.at_ (stFr R s).toNat < farR ∧ gi st.at_ (stFr R s).toNat + stLn R s < gi st.at_ (stTo R s).toNat
  · rw [if_pos hc, if_pos (by unfold Arcs.Cond; rw [arcR_fr, arcR_to, arcR_ln]; exact hc)]
    refine ⟨?_, by simp [h1], by simp [h2]⟩
    unfold viewS Arcs.put
    rw [arcR_fr, arcR_to, arcR_ln]
    simp only [Lb.mk.injEq]
    refine ⟨funext fun v => ?_, funext fun v => ?_, by omega⟩
    · rw [gi_set _ _ _ _ (by omega)]
      simp only [upd]
      by_cases e : v = (stTo R s).toNat
      · rw [if_pos e, if_pos e.symm]
      · rw [if_neg e, if_neg (fun h => e h.symm)]
    · rw [gi_set _ _ _ _ (by omega)]
      simp only [upd]
      by_cases e : v = (stTo R s).toNat
      · rw [if_pos e, if_pos e.symm, if_neg hs0]
      · have e2 : ¬ (stTo R s).toNat = v := fun h => e h.symm
        rw [if_neg e, if_neg e2]
  · rw [if_neg hc, if_neg (by unfold Arcs.Cond; rw [arcR_fr, arcR_to, arcR_ln]; exact hc)]
    exact ⟨rfl, h1, h2⟩
theorem view_fold {M : Nat} {R : List Road} (hok : NetOk (M : Int) R) : ∀ {L : List Int} {st : RS}, st.at_.length = M → st.by_.length = M → (∀ s ∈ L, StepIn R.length s) → viewS (L.foldl (relax R) st) = L.foldl ((netR R).arcs.relax farR) (viewS st) ∧ (L.foldl (relax R) st).at_.length = M ∧ (L.foldl (relax R) st).by_.length = M
  | [], _, h1, h2, _ => ⟨rfl, h1, h2⟩
  | s :: L, st, h1, h2, h3 => by
    obtain ⟨e1, e2, e3⟩ := view_relax hok h1 h2 (h3 s List.mem_cons_self)
    rw [List.foldl_cons, List.foldl_cons, ← e1]
    exact view_fold hok e2 e3 (fun t ht => h3 t (List.mem_cons_of_mem _ ht))
theorem view_reach {M : Nat} {R : List Road} (hok : NetOk (M : Int) R) {L : List Int} (hL : ∀ s ∈ L, StepIn R.length s) {st : RS} (h1 : st.at_.length = M) (h2 : st.by_.length = M) : ∀ k, viewS (reachTo R L st k) = (netR R).arcs.reach farR L (viewS st) k ∧ (reachTo R L st k).at_.length = M ∧ (reachTo R L st k).by_.length = M
  | 0 => ⟨rfl, h1, h2⟩
  | k + 1 => by
    obtain ⟨i1, i2, i3⟩ := view_reach hok hL h1 h2 k
    have := view_fold hok (L := L) (st := { reachTo R L st k with last := -1 }) i2 i3 hL
    simp only [reachTo, roundR, Arcs.reach, Arcs.round]
    rw [← i1]
    exact this
theorem reachR_view {M : Nat} {R : List Road} (hok : NetOk (M : Int) R) (f : List Int) {first : List Int} (hf : first.length = M) :
    viewS (reachR M R f first) = (netR R).arcs.reach farR (stepsTo R f R.length) ⟨gi first, fun _ => none, 0⟩ M ∧ (reachR M R f first).at_.length = M ∧ (reachR M R f first).by_.length = M := by
  have := view_reach hok (stepsTo_in R f R.length) (st := ⟨first, List.replicate M 0, 0⟩) hf (by simp) M
  have e : viewS ⟨first, List.replicate M 0, 0⟩ = ⟨gi first, fun _ => none, 0⟩ := by
    unfold viewS
    simp only [Lb.mk.injEq, true_and, and_true]
    funext v
    have : gi (List.replicate M 0) v = 0 := by unfold gi; rw [List.getElem?_replicate]; split <;> rfl
    rw [if_pos this]
  rw [e] at this
  exact this
theorem reachR_end {M : Nat} {R : List Road} (hok : NetOk (M : Int) R) {f first : List Int} (hf : first.length = M) {p : Nat → Int} (hp : (netR R).arcs.Pot (stepsTo R f R.length) p) (hle : ∀ v, v < M → gi first v ≤ farR) :
    LEnd (netR R).arcs farR M (stepsTo R f R.length) p (gi first) (gi (reachR M R f first).at_) (viewS (reachR M R f first)).by_ := by
  obtain ⟨h1, h2, h3⟩ := reachR_view hok f hf
  have := reach_end (A := (netR R).arcs) (far := farR) (p := p) (first := gi first) (steps_in (netR_fine hok) (stepsR R f)) hp hle 0
  have e : gi (reachR M R f first).at_ = (viewS (reachR M R f first)).at_ := rfl
  rw [e, h1]
  exact this
theorem stepsR_ln {M : Nat} {R : List Road} (hok : NetOk (M : Int) R) (f : List Int) : ∀ s ∈ stepsTo R f R.length, -99 ≤ (netR R).arcs.ln s ∧ (netR R).arcs.ln s ≤ 99 := fun s hs => by
  rw [arcR_ln]; exact stLn_bd hok (stepsTo_in R f R.length s hs)
/-! the chain, the nearest node -/
theorem best_no {l a : List Int} : ∀ {k : Nat}, bestTo l a k < 0 → ∀ v, v < k → gi l v < 0 → ¬ gi a v < farR
  | 0, _, v, hv, _ => by omega
  | k + 1, h, v, hv, h1 => by
    simp only [bestTo] at h
    by_cases hc : gi l k < 0 ∧ gi a k < 1099511627776 ∧ (bestTo l a k < 0 ∨ gi a k < gi a (bestTo l a k).toNat)
    · rw [if_pos hc] at h; omega
    · rw [if_neg hc] at h
      rcases Nat.lt_succ_iff_lt_or_eq.1 hv with hv | rfl
      · exact best_no h v hv h1
      · exact fun h2 => hc ⟨h1, h2, .inl h⟩
theorem best_yes {l a : List Int} : ∀ {k : Nat}, ¬ bestTo l a k < 0 → (bestTo l a k).toNat < k ∧ gi l (bestTo l a k).toNat < 0 ∧ gi a (bestTo l a k).toNat < farR
  | 0, h => absurd (by simp [bestTo]) h
  | k + 1, h => by
    simp only [bestTo] at h ⊢
    by_cases hc : gi l k < 0 ∧ gi a k < 1099511627776 ∧ (bestTo l a k < 0 ∨ gi a k < gi a (bestTo l a k).toNat)
    · rw [if_pos hc]; exact ⟨by omega, hc.1, hc.2.1⟩
    · rw [if_neg hc] at h ⊢
      obtain ⟨h1, h2, h3⟩ := best_yes h
      exact ⟨by omega, h2, h3⟩
theorem turn_view {f : List Int} {s : Int} (h : stepNo s < f.length) : gi (turnF f s) = turnG (gi f) s := by
  funext k
  unfold turnF turnG sg
  show gi _ k = upd (gi f) (stepNo s) _ k
  split <;> rw [gi_addAt h] <;> simp only [upd] <;> (by_cases e : k = stepNo s) <;> (first | (subst e; simp; rfl) | (rw [if_neg (fun h => e h.symm), if_neg e]; omega))
theorem chain_view {M : Nat} {R : List Road} {st : RS} : ∀ {F v : Nat} {c : List Int} {r : Nat} {f : List Int}, Chn (netR R).arcs (viewS st).by_ v c r → c.length < F → (∀ s ∈ c, stepNo s < f.length) →
    ∃ f', chain R st.by_ F v f = some (f', r) ∧ f'.length = f.length ∧ gi f' = turnsG (gi f) c
  | 0, _, _, _, _, _, h, _ => by omega
  | F + 1, v, c, r, f, hc, hl, hs => by
    cases hc with
    | nil h =>
      refine ⟨f, ?_, rfl, rfl⟩
      have h : (if gi st.by_ v = 0 then none else some (gi st.by_ v)) = none := h
      rw [chain, if_pos]
      refine Classical.byContradiction fun hn => ?_
      rw [if_neg hn] at h; simp at h
    | @cons _ s l _ h h2 =>
      have h : (if gi st.by_ v = 0 then none else some (gi st.by_ v)) = some s := h
      by_cases h0 : gi st.by_ v = 0
      · rw [if_pos h0] at h; simp at h
      · rw [if_neg h0] at h
        have e : gi st.by_ v = s := Option.some.inj h
        rw [chain, if_neg h0, e, ← arcR_fr]
        have hs1 := hs s List.mem_cons_self
        obtain ⟨f', a1, a2, a3⟩ := chain_view (M := M) (F := F) (f := turnF f s) h2 (by simp at hl; omega) (fun t ht => by rw [turnF_length]; exact hs t (List.mem_cons_of_mem _ ht))
        refine ⟨f', a1, by rw [a2, turnF_length], ?_⟩
        rw [a3, turn_view hs1]
        rfl
/-! ship ends -/
theorem shipF_ends {M : Nat} {R : List Road} (hok : NetOk (M : Int) R) {x : Nat → Int} : ∀ (F : Nat) (f l : List Int), f.length = R.length → l.length = M → ShipInv (netR R) M x (gi f) (gi l) → over (gi l) M < F →
    ∃ fl lf, shipF M R F f l = some (fl, lf) ∧ fl.length = R.length ∧ lf.length = M ∧ ShipInv (netR R) M x (gi fl) (gi lf) ∧ bestTo lf (reachR M R fl (firstL lf)).at_ M < 0
  | 0, f, l, _, _, _, h => by have := over_nonneg (gi l) M; omega
  | F + 1, f, l, hf, hl, hI, ho => by
    have hM := hok.n1
    have hG := netR_fine hok
    have hS := stepsR R f
    obtain ⟨p, hp⟩ := hI.pot
    have hfl : (firstL l).length = M := by unfold firstL; rw [firstTo_length]; exact hl
    have hfirst : ∀ v, v < M → gi (firstL l) v = farR ∨ (gi (firstL l) v = 0 ∧ 0 < gi l v) := fun v hv => by
      unfold firstL
      rw [gi_firstTo (by omega), if_pos (by omega)]
      by_cases h : gi l v ≤ 0
      · rw [if_pos h]; exact .inl rfl
      · rw [if_neg h]; exact .inr ⟨rfl, by omega⟩
    have hE := reachR_end hok (f := f) (first := firstL l) hfl (pot_of hS hp) (fun v hv => by have := (firstL_bd (l := l) (i := v) (by omega)).2; exact this)
    rw [shipF]
    by_cases hb : bestTo l (reachR M R f (firstL l)).at_ M < 0
    · rw [if_pos hb]
      exact ⟨f, l, rfl, hf, hl, hI, hb⟩
    · rw [if_neg hb]
      obtain ⟨b1, b2, b3⟩ := best_yes hb
      generalize (bestTo l (reachR M R f (firstL l)).at_ M).toNat = best at *
      obtain ⟨c, r, hc, hr, hlr, hcl, hI2⟩ := ship_more hG hI hS (pot_of hS hp) hE (K := 99) (by omega) (stepsR_ln hok f) (by unfold farR; omega) hfirst b1 b3
      have hcin : ∀ s ∈ c, stepNo s < f.length := fun s hs => by
        have := (hE.tele (steps_in hG hS) b1 hc).2.2.1 s hs
        have := stepNo_lt (stepsTo_in R f R.length s this)
        omega
      obtain ⟨f', e1, e2, e3⟩ := chain_view (M := M) (F := 20) (f := f) hc (by omega) hcin
      rw [e1]
      have hl2 : gi (addAt (addAt l best 1) r (-1)) = fun v => gi l v + one best v - one r v := funext fun v => by
        rw [gi_addAt (by rw [addAt_length]; omega), gi_addAt (by omega)]
        unfold one
        split <;> split <;> omega
      refine shipF_ends hok F f' (addAt (addAt l best 1) r (-1)) (by omega) (by rw [addAt_length, addAt_length]; exact hl) (by rw [e3, hl2]; exact hI2) ?_
      rw [hl2, over_step b2 hlr hr]
      omega
/-- what ship hands back -/
def shipV (M : Nat) (R : List Road) (x : List Int) : List Int × List Int := (shipF M R 1000 (List.replicate R.length 0) x).getD ([], [])
def okB (M : Nat) (R : List Road) (x : List Int) : Bool := !((shipV M R x).2.any (fun n => n != 0))
theorem gi_rep0 (n : Nat) : gi (List.replicate n 0) = fun _ => 0 := funext fun v => by unfold gi; rw [List.getElem?_replicate]; split <;> rfl
theorem over_bd {x : List Int} {M : Nat} (hM : M ≤ 6) (h : ∀ v, v < M → gi x v ≤ 30) : over (gi x) M ≤ 180 := by
  have := sumR_bd (f := fun v => max (gi x v) 0) (A := 0) (B := 30) (n := M) (fun i hi => by have := h i hi; omega) M (Nat.le_refl _)
  rw [sumR_N] at this
  unfold over
  omega
structure ShipOk (M : Nat) (R : List Road) (x : List Int) : Prop where
  run : shipF M R 1000 (List.replicate R.length 0) x = some (shipV M R x)
  lf : (shipV M R x).1.length = R.length
  ll : (shipV M R x).2.length = M
  inv : ShipInv (netR R) M (gi x) (gi (shipV M R x).1) (gi (shipV M R x).2)
  no : ∀ v, v < M → gi (shipV M R x).2 v < 0 → ¬ gi (reachR M R (shipV M R x).1 (firstL (shipV M R x).2)).at_ v < farR
theorem ship_ok {M : Nat} {R : List Road} {x : List Int} (he : excErr (M : Int) R x = 0) : ShipOk M R x := by
  obtain ⟨h1, h2, h3, h4⟩ := excErr_ok he
  have hok := netErr_ok h1
  have hM := hok.n1
  have h0 : ShipInv (netR R) M (gi x) (gi (List.replicate R.length 0)) (gi x) := by
    rw [gi_rep0]
    exact ship_zero _ (fun k hk => by have := hok.wd k hk; simp only [netR, rdK_at hk]; omega) (fun k hk => by have := hok.ln k hk; simp only [netR, rdK_at hk]; omega)
  obtain ⟨fl, lf, e, a, b, c, d⟩ := shipF_ends hok 1000 (List.replicate R.length 0) x (by simp) (by omega) h0 (by have := over_bd (x := x) (M := M) (by omega) (fun v hv => (h3 v (by omega)).2); omega)
  have e2 : shipV M R x = (fl, lf) := by unfold shipV; rw [e]; rfl
  refine ⟨by rw [e2, e], by rw [e2]; exact a, by rw [e2]; exact b, by rw [e2]; exact c, ?_⟩
  rw [e2]
  exact best_no d
theorem okB_iff {M : Nat} {R : List Road} {x : List Int} (h : ShipOk M R x) : okB M R x = true ↔ ∀ v, v < M → gi (shipV M R x).2 v = 0 := by
  unfold okB
  rw [Bool.not_eq_true', List.any_eq_false]
  constructor
  · intro h1 v hv
    have := h1 ((shipV M R x).2[v]'(by rw [h.ll]; exact hv)) (List.getElem_mem _)
    rw [gi_at (by rw [h.ll]; exact hv)]
    simpa using this
  · intro h1 y hy
    obtain ⟨j, hj, rfl⟩ := List.getElem_of_mem hy
    have := h1 j (by rw [h.ll] at hj; exact hj)
    rw [gi_at hj] at this
    simp [this]
/-- there is a flow: a cheapest one is handed back, with prices -/
theorem ok_flow {M : Nat} {R : List Road} {x : List Int} (h : ShipOk M R x) (hb : okB M R x = true) : FlowR M R x (shipV M R x).1 := by
  have hz := (okB_iff h).1 hb
  refine ⟨h.lf, h.inv.fs, fun v hv => ?_⟩
  have := h.inv.out v hv
  rw [hz v hv] at this
  omega
theorem least_cheap {M : Nat} {R : List Road} {x f g : List Int} (hok : NetOk (M : Int) R) {p : Nat → Int} (hp : (netR R).arcs.Pot (stepsTo R f R.length) p) (hf : FlowR M R x f) (hg : FlowR M R x g) : costTo R f R.length ≤ costTo R g R.length := by
  rw [costR, costR]
  exact (cheapest_of (netR_fine hok) (stepsR R f) hp hf.2.1 hg.2.1 (fun v hv => by rw [hf.2.2 v hv, hg.2.2 v hv])).1
theorem ok_least {M : Nat} {R : List Road} {x g : List Int} (hok : NetOk (M : Int) R) (h : ShipOk M R x) (hb : okB M R x = true) (hg : FlowR M R x g) : costTo R (shipV M R x).1 R.length ≤ costTo R g R.length := by
  obtain ⟨p, hp⟩ := h.inv.pot
  exact least_cheap hok (pot_of (stepsR R _) hp) (ok_flow h hb) hg
/-- the reached nodes -/
def reachedB (M : Nat) (R : List Road) (x : List Int) (v : Nat) : Bool := decide (gi (reachR M R (shipV M R x).1 (firstL (shipV M R x).2)).at_ v < farR)
theorem left_source {l : Nat → Int} {N : Nat} (hs : sumN l N = 0) (h : ¬ ∀ v, v < N → l v = 0) : ∃ a, a < N ∧ 0 < l a := Classical.byContradiction fun hn => h (left_zero (fun v hv => Classical.byContradiction fun h2 => hn ⟨v, hv, by omega⟩) hs)
theorem ok_left {M : Nat} {R : List Road} {x : List Int} (he : excErr (M : Int) R x = 0) (h : ShipOk M R x) : sumN (gi (shipV M R x).2) M = 0 := by
  obtain ⟨h1, h2, h3, h4⟩ := excErr_ok he
  have hok := netErr_ok h1
  have h5 := out_sum (netR_fine hok) (gi (shipV M R x).1)
  have hx : sumN (gi x) M = 0 := by rw [← sumR_N, show M = x.length by omega]; exact h4
  rw [← sumN_congr (f := fun v => (netR R).out (gi (shipV M R x).1) v + gi (shipV M R x).2 v) (g := gi x) (fun v hv => h.inv.out v hv), sumN_add, h5] at hx
  omega
theorem ok_dam {M : Nat} {R : List Road} {x : List Int} (he : excErr (M : Int) R x = 0) (h : ShipOk M R x) (hb : okB M R x = false) : (netR R).Dam M (gi x) (reachedB M R x) := by
  obtain ⟨h1, h2, h3, h4⟩ := excErr_ok he
  have hok := netErr_ok h1
  have hM := hok.n1
  obtain ⟨a, ha, ha2⟩ := left_source (ok_left he h) (fun hz => by rw [(okB_iff h).2 hz] at hb; simp at hb)
  obtain ⟨p, hp⟩ := h.inv.pot
  have hfl : (firstL (shipV M R x).2).length = M := by unfold firstL; rw [firstTo_length]; exact h.ll
  have hgf : ∀ v, v < M → gi (firstL (shipV M R x).2) v = if gi (shipV M R x).2 v ≤ 0 then farR else 0 := fun v hv => by
    unfold firstL
    rw [gi_firstTo (by rw [h.ll]; exact hv), if_pos (by rw [h.ll]; exact hv)]; rfl
  have hE := reachR_end hok (f := (shipV M R x).1) (first := firstL (shipV M R x).2) hfl (pot_of (stepsR R _) hp) (fun v hv => (firstL_bd (l := (shipV M R x).2) (i := v) (by rw [h.ll]; exact hv)).2)
  exact ship_stuck (netR_fine hok) h.inv (stepsR R _) hE (K := 99) (by omega) (stepsR_ln hok _) (by unfold farR; omega) (fun v hv => by
    rw [hgf v hv]
    by_cases h : gi (shipV M R x).2 v ≤ 0
    · rw [if_pos h]; exact .inl rfl
    · rw [if_neg h]; exact .inr ⟨rfl, by omega⟩) h.no ha (by rw [hgf a ha, if_neg (by omega)])
theorem dam_no {M : Nat} {R : List Road} {x g : List Int} (hok : NetOk (M : Int) R) {S : Nat → Bool} (hd : (netR R).Dam M (gi x) S) (hg : FlowR M R x g) : False := dam_none (netR_fine hok) hd hg.2.1 hg.2.2
/-- there is a flow exactly if ship leaves nothing -/
theorem okB_flow {M : Nat} {R : List Road} {x : List Int} (he : excErr (M : Int) R x = 0) : okB M R x = true ↔ ∃ g, FlowR M R x g := by
  have h := ship_ok he
  constructor
  · exact fun hb => ⟨_, ok_flow h hb⟩
  · rintro ⟨g, hg⟩
    cases hb : okB M R x with
    | true => rfl
    | false => exact (dam_no (netErr_ok (excErr_ok he).1) (ok_dam he h hb) hg).elim
end Go.Proofs.Ytbejgbflipoboaa
