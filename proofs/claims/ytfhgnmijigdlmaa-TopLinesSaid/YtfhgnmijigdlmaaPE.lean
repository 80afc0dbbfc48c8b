/- Moves that lead from a load to another one; shifts, mirrors, joins; means. No program in sight. -/
import Derived.Test.YtfhgnmijigdlmaaPD
namespace Go.Proofs.Ytfhgnmijigdlmaa

def goodMove (M : List Move) (i : Nat) : Bool := withinB (mvK M i).fr (-1000) 1000 && (withinB (mvK M i).to (-1000) 1000 && withinB (mvK M i).m 1 150)
def allMoves (M : List Move) : Bool := (List.range M.length).all (goodMove M)
theorem allMoves_no {M : List Move} {k : Nat} (hk : k < M.length) (h : goodMove M k = false) : allMoves M = false := by
  unfold allMoves; rw [List.all_eq_false]; exact ⟨k, List.mem_range.2 hk, by simp [h]⟩
theorem allMoves_yes {M : List Move} (h : ∀ j, j < M.length → goodMove M j = true) : allMoves M = true := by
  unfold allMoves; rw [List.all_eq_true]; exact fun j hj => h j (List.mem_range.1 hj)
theorem allMoves_at {M : List Move} (h : allMoves M = true) {k : Nat} (hk : k < M.length) : (-1000 ≤ M[k].fr ∧ M[k].fr ≤ 1000) ∧ (-1000 ≤ M[k].to ∧ M[k].to ≤ 1000) ∧ (1 ≤ M[k].m ∧ M[k].m ≤ 150) := by
  unfold allMoves at h; rw [List.all_eq_true] at h
  have := h k (List.mem_range.2 hk)
  unfold goodMove at this; rw [mvK_at hk] at this
  simp only [Bool.and_eq_true, withinB_iff] at this
  exact this
def movesErr (M : List Move) : Int := if 12 < M.length then 3 else if allMoves M then 0 else 1
theorem movesErr_ok {M : List Move} (h : movesErr M = 0) : M.length ≤ 12 ∧ allMoves M = true := by
  unfold movesErr at h
  split at h
  · simp at h
  · split at h
    · exact ⟨by omega, by assumption⟩
    · simp at h
/-- what leaves the place p, and what comes to it, by the first n moves -/
def leaveTo (M : List Move) (p : Int) (n : Nat) : Int := sumR (fun i => if (mvK M i).fr = p then (mvK M i).m else 0) n
def comeTo (M : List Move) (p : Int) (n : Nat) : Int := sumR (fun i => if (mvK M i).to = p then (mvK M i).m else 0) n
def balAt (a b : List Atom) (M : List Move) (p : Int) : Bool := decide (leaveTo M p M.length = massAt a p) && decide (comeTo M p M.length = massAt b p)
def balB (a b : List Atom) (M : List Move) : Bool := (List.range 2001).all fun i => balAt a b M (thr i)
theorem rep_count (n : Nat) (x : Int × Int) (p : Int) : ((List.replicate n x).map Prod.fst).count p = (if x.1 = p then n else 0) ∧ ((List.replicate n x).map Prod.snd).count p = (if x.2 = p then n else 0) := by
  rw [List.map_replicate, List.map_replicate, List.count_replicate, List.count_replicate]
  constructor <;> simp
theorem pairs_count {M : List Move} (hm : ∀ i, (hi : i < M.length) → 0 ≤ M[i].m) (p : Int) : ∀ n, n ≤ M.length → ((((pairsM (M.take n)).map Prod.fst).count p : Nat) : Int) = leaveTo M p n ∧ ((((pairsM (M.take n)).map Prod.snd).count p : Nat) : Int) = comeTo M p n
  | 0, _ => by simp [pairsM, leaveTo, comeTo, sumR]
  | n + 1, hn => by
    obtain ⟨i1, i2⟩ := pairs_count hm p n (by omega)
    have h1 := hm n (by omega)
    have e : pairsM [M[n]] = List.replicate M[n].m.toNat (M[n].fr, M[n].to) := by simp [pairsM]
    obtain ⟨c1, c2⟩ := rep_count M[n].m.toNat (M[n].fr, M[n].to) p
    rw [List.take_succ_eq_append_getElem (by omega), pairsM_app, List.map_append, List.map_append, List.count_append, List.count_append, e, c1, c2]
    unfold leaveTo comeTo at *
    simp only [sumR]
    rw [mvK_at (by omega), ← i1, ← i2]
    constructor
    · split <;> omega
    · split <;> omega
theorem pairs_count_all {M : List Move} (hm : ∀ i, (hi : i < M.length) → 0 ≤ M[i].m) (p : Int) : ((((pairsM M).map Prod.fst).count p : Nat) : Int) = leaveTo M p M.length ∧ ((((pairsM M).map Prod.snd).count p : Nat) : Int) = comeTo M p M.length := by
  have := pairs_count hm p M.length (Nat.le_refl _)
  rwa [List.take_length] at this
theorem moves_in {M : List Move} (h : allMoves M = true) : InR (pairsM M) := fun q hq => by
  unfold pairsM at hq
  obtain ⟨x, hx, h2⟩ := List.mem_flatMap.1 hq
  obtain ⟨j, hj, rfl⟩ := List.getElem_of_mem hx
  obtain ⟨_, rfl⟩ := List.mem_replicate.1 h2
  have := allMoves_at h hj
  exact ⟨this.1, this.2.1⟩
theorem thr_of {p : Int} (h : -1000 ≤ p ∧ p ≤ 1000) : ∃ i, i < 2001 ∧ thr i = p := ⟨(p + 1000).toNat, by omega, by unfold thr; omega⟩
theorem massAt_out {l : List Atom} (h : valLoad l = 0) {p : Int} (hp : ¬ (-1000 ≤ p ∧ p ≤ 1000)) : massAt l p = 0 := massAt_miss fun x hx e => hp (by have := (isListB_mem (listErr_ok h).2 hx).1; omega)
theorem leave_out {M : List Move} (h : allMoves M = true) {p : Int} (hp : ¬ (-1000 ≤ p ∧ p ≤ 1000)) : leaveTo M p M.length = 0 ∧ comeTo M p M.length = 0 := by
  unfold leaveTo comeTo
  constructor
  · rw [sumR_congr (n := M.length) (g := fun _ => 0) (fun i hi => by rw [mvK_at hi, if_neg]; intro e; have := (allMoves_at h hi).1; omega) _ (Nat.le_refl _), sumR_zero']
  · rw [sumR_congr (n := M.length) (g := fun _ => 0) (fun i hi => by rw [mvK_at hi, if_neg]; intro e; have := (allMoves_at h hi).2.1; omega) _ (Nat.le_refl _), sumR_zero']
theorem balB_all {a b : List Atom} {M : List Move} (ha : valLoad a = 0) (hb : valLoad b = 0) (hM : allMoves M = true) : balB a b M = true ↔ ∀ p, balAt a b M p = true := by
  unfold balB
  rw [List.all_eq_true]
  constructor
  · intro h p
    by_cases hp : -1000 ≤ p ∧ p ≤ 1000
    · obtain ⟨i, hi, rfl⟩ := thr_of hp
      exact h i (List.mem_range.2 hi)
    · unfold balAt
      rw [massAt_out ha hp, massAt_out hb hp, (leave_out hM hp).1, (leave_out hM hp).2]; rfl
  · exact fun h i _ => h _
/-- the first error of moves between loads -/
def chkErr (a b : List Atom) (M : List Move) : Int := if bothErr a b ≠ 0 then bothErr a b else if movesErr M ≠ 0 then movesErr M else if totalL a ≠ totalL b then 5 else if balB a b M then 0 else 7
theorem chkErr_ok {a b : List Atom} {M : List Move} (h : chkErr a b M = 0) : linePair a b = 0 ∧ movesErr M = 0 ∧ balB a b M = true := by
  unfold chkErr at h
  by_cases h1 : bothErr a b = 0
  · rw [if_neg (by simpa using h1)] at h
    by_cases h2 : movesErr M = 0
    · rw [if_neg (by simpa using h2)] at h
      by_cases h3 : totalL a = totalL b
      · rw [if_neg (by simpa using h3)] at h
        by_cases h4 : balB a b M = true
        · exact ⟨by unfold linePair; rw [if_neg (by simpa using h1), if_neg (by simpa using h3)], h2, h4⟩
        · rw [if_neg h4] at h; omega
      · rw [if_pos h3] at h; omega
    · rw [if_pos h2] at h; exact absurd h h2
  · rw [if_pos h1] at h; exact absurd h h1
theorem chkErr_mk {a b : List Atom} {M : List Move} (h1 : linePair a b = 0) (h2 : movesErr M = 0) (h3 : balB a b M = true) : chkErr a b M = 0 := by
  obtain ⟨a1, a2, a3⟩ := linePair_ok h1
  unfold chkErr
  rw [if_neg (by simp [bothErr, a1, a2]), if_neg (by simpa using h2), if_neg (by simpa using a3), if_pos h3]
theorem chk_perm {a b : List Atom} {M : List Move} (h : chkErr a b M = 0) : ((pairsM M).map Prod.fst).Perm (unitsL a) ∧ ((pairsM M).map Prod.snd).Perm (unitsL b) := by
  obtain ⟨h1, h2, h3⟩ := chkErr_ok h
  obtain ⟨a1, a2, a3⟩ := linePair_ok h1
  obtain ⟨m1, m2⟩ := movesErr_ok h2
  have hall := (balB_all a1 a2 m2).1 h3
  have hc := fun p => pairs_count_all (M := M) (fun i hi => by have := (allMoves_at m2 hi).2.2; omega) p
  constructor
  · rw [List.perm_iff_count]
    intro p
    have e := hall p
    unfold balAt at e
    simp only [Bool.and_eq_true, decide_eq_true_eq] at e
    have := (hc p).1
    have := load_count a1 p
    omega
  · rw [List.perm_iff_count]
    intro p
    have e := hall p
    unfold balAt at e
    simp only [Bool.and_eq_true, decide_eq_true_eq] at e
    have := (hc p).2
    have := load_count a2 p
    omega
/-- no two moves cross -/
def ordB (M : List Move) : Bool := M.all fun x => M.all fun y => !(decide (x.fr < y.fr) && decide (y.to < x.to))
theorem ordB_iff {M : List Move} (hm : ∀ x ∈ M, 1 ≤ x.m) : ordB M = true ↔ ¬ Crossed (pairsM M) := by
  have mem : ∀ x ∈ M, (x.fr, x.to) ∈ pairsM M := fun x hx => by
    unfold pairsM
    refine List.mem_flatMap.2 ⟨x, hx, List.mem_replicate.2 ⟨?_, rfl⟩⟩
    have := hm x hx; omega
  unfold ordB
  simp only [List.all_eq_true, Bool.not_eq_true', Bool.and_eq_false_iff, decide_eq_false_iff_not]
  constructor
  · rintro h ⟨q, hq, r, hr, h1, h2⟩
    unfold pairsM at hq hr
    obtain ⟨x, hx, e1⟩ := List.mem_flatMap.1 hq
    obtain ⟨y, hy, e2⟩ := List.mem_flatMap.1 hr
    obtain ⟨_, rfl⟩ := List.mem_replicate.1 e1
    obtain ⟨_, rfl⟩ := List.mem_replicate.1 e2
    have := h x hx y hy
    simp only at h1 h2
    omega
  · intro h x hx y hy
    by_cases c1 : x.fr < y.fr
    · by_cases c2 : y.to < x.to
      · exact absurd ⟨_, mem x hx, _, mem y hy, c1, c2⟩ h
      · exact .inr c2
    · exact .inl c1
theorem load_pw' {l : List Atom} (h : valLoad l = 0) : (unitsL l).Pairwise (· ≤ ·) := asc_pw (load_asc h).1
theorem pair_len {a b : List Atom} (h : linePair a b = 0) : (unitsL a).length = (unitsL b).length := by
  obtain ⟨a1, a2, a3⟩ := linePair_ok h
  exact units_eq (fine_load a1) (fine_load a2) a3
/-- no moves cost less than the least; by squares just the ordered ones cost as much -/
theorem bounds_said {a b : List Atom} {M : List Move} (h : chkErr a b M = 0) : apartL a b 1 ≤ costTo M 1 M.length ∧ apartL a b 2 ≤ costTo M 2 M.length ∧ (costTo M 2 M.length = apartL a b 2 ↔ ordB M = true) := by
  obtain ⟨h1, h2, h3⟩ := chkErr_ok h
  obtain ⟨a1, a2, a3⟩ := linePair_ok h1
  obtain ⟨m1, m2⟩ := movesErr_ok h2
  obtain ⟨p1, p2⟩ := chk_perm h
  have hl := pair_len h1
  have hm : ∀ x ∈ M, 1 ≤ x.m := fun x hx => by
    obtain ⟨j, hj, rfl⟩ := List.getElem_of_mem hx
    have := (allMoves_at m2 hj).2.2; omega
  have hc := fun k => cost_all (M := M) (fun i hi => by have := (allMoves_at m2 hi).2.2; omega) k
  have hz := fun k => sumP_zip (unitsL a) (unitsL b) k hl
  rw [hc, hc, ordB_iff hm]
  unfold apartL
  rw [← hz, ← hz]
  refine ⟨best_one p1 p2 (load_pw' a1) (load_pw' a2) hl (load_in a1) (load_in a2), best_two p1 p2 (load_pw' a1) (load_pw' a2) hl (load_in a1) (load_in a2), fun e hx => ?_, fun hx => two_same p1 p2 (load_pw' a1) (load_pw' a2) hl (load_in a1) (load_in a2) hx⟩
  have := two_more p1 p2 (load_pw' a1) (load_pw' a2) hl (load_in a1) (load_in a2) hx
  omega
theorem load_mass {l : List Atom} (h : valLoad l = 0) (p : Int) : massAt l p ≤ 30 := by
  unfold massAt
  split
  · next x hx =>
    have := isListB_mem (listErr_ok h).2 (List.mem_of_find?_eq_some hx)
    omega
  · omega
theorem leave_ge {M : List Move} (hm : ∀ i, (hi : i < M.length) → 0 ≤ M[i].m) {k : Nat} (hk : k < M.length) : M[k].m ≤ leaveTo M M[k].fr M.length := by
  have key : ∀ n, n ≤ M.length → (0 ≤ leaveTo M M[k].fr n ∧ (k < n → M[k].m ≤ leaveTo M M[k].fr n)) := fun n => by
    induction n with
    | zero => intro _; simp [leaveTo, sumR]
    | succ n ih =>
      intro hn
      obtain ⟨i1, i2⟩ := ih (by omega)
      have h1 := hm n (by omega)
      have e : leaveTo M M[k].fr (n + 1) = leaveTo M M[k].fr n + if M[n].fr = M[k].fr then M[n].m else 0 := by unfold leaveTo; simp only [sumR]; rw [mvK_at (by omega)]
      rw [e]
      by_cases c : n = k
      · subst c; rw [if_pos rfl]; omega
      · constructor
        · split <;> omega
        · intro h2; have := i2 (by omega); split <;> omega
  exact (key _ (Nat.le_refl _)).2 hk
/-- the ordered moves lead there, are ordered, and cost the least -/
theorem ordered_said {a b : List Atom} {M : List Move} (h : linePair a b = 0) (hp : pairsM M = (unitsL a).zip (unitsL b)) (hc : M.length ≤ 12) (hm : ∀ x ∈ M, 1 ≤ x.m) : chkErr a b M = 0 ∧ ordB M = true ∧ ∀ k, costTo M k M.length = apartL a b k := by
  obtain ⟨a1, a2, a3⟩ := linePair_ok h
  have hl := pair_len h
  have hm' : ∀ i, (hi : i < M.length) → 0 ≤ M[i].m := fun i hi => by have := hm _ (List.getElem_mem hi); omega
  have hcnt := fun p => pairs_count_all hm' p
  rw [hp, zip_fst hl, zip_snd hl] at hcnt
  have hbal : ∀ p, leaveTo M p M.length = massAt a p ∧ comeTo M p M.length = massAt b p := fun p => by
    have := (hcnt p).1; have := (hcnt p).2; have := load_count a1 p; have := load_count a2 p; omega
  have hin : ∀ i, (hi : i < M.length) → (M[i].fr, M[i].to) ∈ (unitsL a).zip (unitsL b) := fun i hi => by
    rw [← hp]
    unfold pairsM
    refine List.mem_flatMap.2 ⟨M[i], List.getElem_mem hi, List.mem_replicate.2 ⟨?_, rfl⟩⟩
    have := hm _ (List.getElem_mem hi); omega
  have hall : allMoves M = true := allMoves_yes fun j hj => by
    have h1 := List.of_mem_zip (hin j hj)
    have b1 := load_in a1 _ h1.1
    have b2 := load_in a2 _ h1.2
    have b3 := leave_ge hm' hj
    rw [(hbal _).1] at b3
    have b4 := load_mass a1 M[j].fr
    have b5 := hm _ (List.getElem_mem hj)
    unfold goodMove
    rw [mvK_at hj]
    simp only [Bool.and_eq_true, withinB_iff]
    omega
  refine ⟨chkErr_mk h ?_ ((balB_all a1 a2 hall).2 fun p => ?_), ?_, fun k => ?_⟩
  · unfold movesErr; rw [if_neg (by omega), if_pos hall]
  · unfold balAt; rw [(hbal p).1, (hbal p).2]; simp
  · rw [ordB_iff hm, hp]; exact zip_uncrossed (load_pw' a1) (load_pw' a2)
  · rw [cost_all hm', hp, sumP_zip _ _ _ hl]; rfl

/-! shifts and mirrors -/
def shiftL (l : List Atom) (d : Int) : List Atom := l.map fun x => ⟨x.p + d, x.m⟩
def mirrorL (l : List Atom) : List Atom := (l.map fun x => (⟨-x.p, x.m⟩ : Atom)).reverse
def shiftOk (l : List Atom) (d : Int) : Bool := l.all fun x => withinB (x.p + d) (-1000) 1000
def shiftErr (l : List Atom) (d : Int) : Int := if valLoad l ≠ 0 then valLoad l else if shiftOk l d then 0 else 1
def shiftV (l : List Atom) (d : Int) : List Atom := if shiftErr l d = 0 then shiftL l d else []
def mirrorV (l : List Atom) : List Atom := if valLoad l = 0 then mirrorL l else []
theorem shiftErr_ok {l : List Atom} {d : Int} (h : shiftErr l d = 0) : valLoad l = 0 ∧ shiftOk l d = true := by
  unfold shiftErr at h
  by_cases h1 : valLoad l = 0
  · rw [if_neg (by simpa using h1)] at h
    by_cases h2 : shiftOk l d = true
    · exact ⟨h1, h2⟩
    · rw [if_neg h2] at h; omega
  · rw [if_pos h1] at h; exact absurd h h1
/-- a list is a load just if its places ascend, and are places, and its masses are right -/
theorem valLoad_mk {l : List Atom} (h1 : l.length ≤ 6) (h2 : ∀ x ∈ l, (-1000 ≤ x.p ∧ x.p ≤ 1000) ∧ (1 ≤ x.m ∧ x.m ≤ 30)) (h3 : l.Pairwise (fun x y => x.p < y.p)) : valLoad l = 0 := by
  unfold valLoad listErr
  rw [if_neg (by omega), if_pos (isListB_yes fun j hj => ?_)]
  have hx := h2 _ (List.getElem_mem hj)
  unfold goodAt
  rw [atK_at hj]
  simp only [Bool.and_eq_true, Bool.or_eq_true, decide_eq_true_eq, withinB_iff]
  refine ⟨hx.1, hx.2, ?_⟩
  by_cases h0 : j = 0
  · exact .inl h0
  · right
    rw [atK_at (by omega)]
    rw [List.pairwise_iff_getElem] at h3
    exact h3 (j - 1) j (by omega) hj (by omega)
theorem valLoad_in {l : List Atom} (h : valLoad l = 0) : l.length ≤ 6 ∧ (∀ x ∈ l, (-1000 ≤ x.p ∧ x.p ≤ 1000) ∧ (1 ≤ x.m ∧ x.m ≤ 30)) ∧ l.Pairwise (fun x y => x.p < y.p) :=
  ⟨(listErr_ok h).1, fun _ hx => isListB_mem (listErr_ok h).2 hx, load_pw h⟩
theorem shift_valid {l : List Atom} {d : Int} (h : shiftErr l d = 0) : valLoad (shiftL l d) = 0 := by
  obtain ⟨h1, h2⟩ := shiftErr_ok h
  obtain ⟨a1, a2, a3⟩ := valLoad_in h1
  unfold shiftOk at h2
  rw [List.all_eq_true] at h2
  refine valLoad_mk (by simpa [shiftL] using a1) (fun x hx => ?_) ?_
  · unfold shiftL at hx
    obtain ⟨y, hy, rfl⟩ := List.mem_map.1 hx
    have := withinB_iff.1 (h2 y hy)
    exact ⟨this, (a2 y hy).2⟩
  · unfold shiftL
    rw [List.pairwise_map]
    exact a3.imp fun h => by simp only; omega
theorem shift_back (l : List Atom) (d : Int) : shiftL (shiftL l d) (-d) = l := by
  unfold shiftL
  rw [List.map_map]
  have : ((fun x : Atom => (⟨x.p + -d, x.m⟩ : Atom)) ∘ fun x => ⟨x.p + d, x.m⟩) = id := by
    funext x; simp only [Function.comp, id]; rw [show x.p + d + -d = x.p by omega]
  rw [this, List.map_id]
theorem shift_back_ok {l : List Atom} {d : Int} (h : shiftErr l d = 0) : shiftErr (shiftL l d) (-d) = 0 := by
  obtain ⟨h1, h2⟩ := shiftErr_ok h
  unfold shiftErr
  rw [if_neg (by simpa using shift_valid h), if_pos]
  unfold shiftOk
  rw [List.all_eq_true]
  intro x hx
  unfold shiftL at hx
  obtain ⟨y, hy, rfl⟩ := List.mem_map.1 hx
  have := (valLoad_in h1).2.1 y hy
  rw [withinB_iff]; simp only; omega
theorem mirror_valid {l : List Atom} (h : valLoad l = 0) : valLoad (mirrorL l) = 0 := by
  obtain ⟨a1, a2, a3⟩ := valLoad_in h
  refine valLoad_mk (by simpa [mirrorL] using a1) (fun x hx => ?_) ?_
  · unfold mirrorL at hx
    rw [List.mem_reverse] at hx
    obtain ⟨y, hy, rfl⟩ := List.mem_map.1 hx
    have := a2 y hy
    simp only; omega
  · unfold mirrorL
    rw [List.pairwise_reverse, List.pairwise_map]
    exact a3.imp fun h => by simp only; omega
theorem mirror_back (l : List Atom) : mirrorL (mirrorL l) = l := by
  unfold mirrorL
  rw [List.map_reverse, List.reverse_reverse, List.map_map]
  have : ((fun x : Atom => (⟨-x.p, x.m⟩ : Atom)) ∘ fun x => ⟨-x.p, x.m⟩) = id := by
    funext x; simp only [Function.comp, id]; rw [Int.neg_neg]
  rw [this, List.map_id]
theorem units_shift (l : List Atom) (d : Int) : unitsL (shiftL l d) = (unitsL l).map (· + d) := by
  unfold unitsL shiftL
  rw [List.flatMap_map, List.map_flatMap]
  congr 1
  funext x
  simp
theorem units_mirror (l : List Atom) : unitsL (mirrorL l) = ((unitsL l).map (fun x => -x)).reverse := by
  induction l with
  | nil => rfl
  | cons x l ih =>
    have e1 : mirrorL (x :: l) = mirrorL l ++ [⟨-x.p, x.m⟩] := by simp [mirrorL]
    have e2 : unitsL (x :: l) = List.replicate x.m.toNat x.p ++ unitsL l := by simp [unitsL]
    rw [e1, units_app, ih, e2, List.map_append, List.reverse_append]
    congr 1
    simp [unitsL]
theorem total_shift (l : List Atom) (d : Int) : totalL (shiftL l d) = totalL l := by
  unfold totalL shiftL; rw [List.map_map]; rfl
theorem total_mirror (l : List Atom) : totalL (mirrorL l) = totalL l := by
  unfold totalL mirrorL
  rw [List.map_reverse, perm_sum (List.reverse_perm _), List.map_map]; rfl
theorem apart_units (a b : List Atom) (k : Int) (h : (unitsL a).length = (unitsL b).length) : apartL a b k = sumP ((unitsL a).zip (unitsL b)) k := by rw [sumP_zip _ _ _ h]; rfl
theorem priceV_move (x y d k : Int) : priceV (x + d) (y + d) k = priceV x y k ∧ priceV (-x) (-y) k = priceV x y k := by
  have e1 : distI (x + d) (y + d) = distI x y := by unfold distI; split <;> split <;> omega
  have e2 : distI (-x) (-y) = distI x y := by unfold distI; split <;> split <;> omega
  unfold priceV
  rw [e1, e2]
  exact ⟨rfl, rfl⟩
theorem apart_shift {a b : List Atom} (h : (unitsL a).length = (unitsL b).length) (d k : Int) : apartL (shiftL a d) (shiftL b d) k = apartL a b k := by
  rw [apart_units _ _ _ (by rw [units_shift, units_shift]; simpa using h), apart_units _ _ _ h, units_shift, units_shift, List.zip_map]
  unfold sumP
  rw [List.map_map]
  congr 2
  funext q
  exact (priceV_move _ _ _ _).1
theorem zip_reverse' {u v : List Int} (h : u.length = v.length) : u.reverse.zip v.reverse = (u.zip v).reverse := by
  refine List.ext_getElem (by simp) fun i h1 h2 => ?_
  simp only [List.length_zip, List.length_reverse] at h1 h2
  simp only [List.getElem_zip, List.getElem_reverse, List.length_zip, Prod.mk.injEq]
  constructor
  · congr 1; omega
  · congr 1; omega
theorem apart_mirror {a b : List Atom} (h : (unitsL a).length = (unitsL b).length) (k : Int) : apartL (mirrorL a) (mirrorL b) k = apartL a b k := by
  rw [apart_units _ _ _ (by rw [units_mirror, units_mirror]; simpa using h), apart_units _ _ _ h, units_mirror, units_mirror, zip_reverse' (by simpa using h), List.zip_map]
  unfold sumP
  rw [List.map_reverse, perm_sum (List.reverse_perm _), List.map_map]
  congr 2
  funext q
  exact (priceV_move _ _ 0 _).2
theorem apart_far {a : List Atom} (ha : Fine a) (d : Int) : apartL a (shiftL a d) 1 = totalL a * distI 0 d := by
  rw [apart_units _ _ _ (by rw [units_shift]; simp), units_shift, ← units_len ha]
  generalize unitsL a = u
  induction u with
  | nil => simp [sumP]
  | cons x u ih =>
    have e : sumP ((x :: u).zip ((x :: u).map (· + d))) 1 = priceV x (x + d) 1 + sumP (u.zip (u.map (· + d))) 1 := by simp [sumP]
    have e2 : priceV x (x + d) 1 = distI 0 d := by unfold priceV distI; simp only [show ¬ (1 : Int) = 2 by omega, if_false]; split <;> split <;> omega
    rw [e, ih, e2, List.length_cons, show ((u.length + 1 : Nat) : Int) = (u.length : Int) + 1 by omega, Int.add_mul, Int.one_mul]
    omega

/-! joins -/
def joinL (a b : List Atom) : List Atom := (placesL2 a b).map fun p => ⟨p, massAt a p + massAt b p⟩
def joinErr (a b : List Atom) : Int := if bothErr a b ≠ 0 then bothErr a b else if 6 < (placesL2 a b).length then 3 else if valLoad (joinL a b) ≠ 0 then 1 else 0
def joinV (a b : List Atom) : List Atom := if joinErr a b = 0 then joinL a b else []
theorem joinErr_ok {a b : List Atom} (h : joinErr a b = 0) : valLoad a = 0 ∧ valLoad b = 0 ∧ (placesL2 a b).length ≤ 6 ∧ valLoad (joinL a b) = 0 := by
  unfold joinErr at h
  by_cases h1 : bothErr a b = 0
  · rw [if_neg (by simpa using h1)] at h
    by_cases h2 : 6 < (placesL2 a b).length
    · rw [if_pos h2] at h; omega
    · rw [if_neg h2] at h
      by_cases h3 : valLoad (joinL a b) = 0
      · obtain ⟨x, y⟩ := bothErr_ok h1
        exact ⟨x, y, by omega, h3⟩
      · rw [if_pos h3] at h; omega
  · rw [if_pos h1] at h; exact absurd h h1
theorem join_total {a b : List Atom} (ha : valLoad a = 0) (hb : valLoad b = 0) : totalL (joinL a b) = totalL a + totalL b := by
  unfold totalL joinL
  rw [List.map_map]
  have := places_sum (a := a) (b := b) (f := fun p => massAt a p + massAt b p) (fun p hp => by have := onPlace_no (fine_load ha) (fine_load hb) hp; omega) 2001
  unfold placesL2
  have e : ((fun x : Atom => x.m) ∘ fun p => (⟨p, massAt a p + massAt b p⟩ : Atom)) = fun p => massAt a p + massAt b p := rfl
  rw [e, this, sumR_add, mass_sum ha, mass_sum hb, bel_high ha (by omega), bel_high hb (by omega)]
  rfl
/-! means -/
/-- the sum of f over the units, atom by atom -/
def momTo (f : Int → Int) (l : List Atom) (n : Nat) : Int := sumR (fun i => f (atK l i).p * (atK l i).m) n
theorem units_sum {l : List Atom} (hm : ∀ i, (hi : i < l.length) → 0 ≤ l[i].m) (f : Int → Int) : ∀ n, n ≤ l.length → ((unitsL (l.take n)).map f).sum = momTo f l n
  | 0, _ => by simp [unitsL, momTo, sumR]
  | n + 1, hn => by
    have ih := units_sum hm f n (by omega)
    have h1 := hm n (by omega)
    rw [List.take_succ_eq_append_getElem (by omega), units_app, List.map_append, List.sum_append, ih]
    unfold momTo
    simp only [sumR]
    rw [atK_at (by omega)]
    congr 1
    have e : unitsL [l[n]] = List.replicate l[n].m.toNat l[n].p := by simp [unitsL]
    rw [e, List.map_replicate]
    have : ∀ k : Nat, (List.replicate k (f l[n].p)).sum = k * f l[n].p := fun k => by
      induction k with
      | zero => simp
      | succ k ihk => rw [List.replicate_succ, List.sum_cons, ihk, show ((k + 1 : Nat) : Int) = (k : Int) + 1 by omega, Int.add_mul, Int.one_mul]; omega
    rw [this, show ((l[n].m.toNat : Nat) : Int) = l[n].m by omega, Int.mul_comm]
theorem units_sum_all {l : List Atom} (hm : ∀ i, (hi : i < l.length) → 0 ≤ l[i].m) (f : Int → Int) : ((unitsL l).map f).sum = momTo f l l.length := by
  have := units_sum hm f l.length (Nat.le_refl _)
  rwa [List.take_length] at this
/-- the squares of the differences of the first n numbers -/
def sqTo2 (u : List Int) (i n : Nat) : Int := sumR (fun k => priceV (gi u i) (gi u k) 2) n
def sprTo (u : List Int) (n : Nat) : Int := sumR (fun i => sqTo2 u i i) n
def s1To (u : List Int) (n : Nat) : Int := sumR (gi u) n
def s2To (u : List Int) (n : Nat) : Int := sumR (fun i => gi u i * gi u i) n
theorem sqTo2_eq (u : List Int) (i : Nat) : ∀ n, sqTo2 u i n = n * (gi u i * gi u i) - 2 * gi u i * s1To u n + s2To u n
  | 0 => by simp [sqTo2, s1To, s2To, sumR]
  | n + 1 => by
    have ih := sqTo2_eq u i n
    have e : sqTo2 u i (n + 1) = sqTo2 u i n + priceV (gi u i) (gi u n) 2 := rfl
    rw [e, ih, priceV_two]
    simp only [s1To, s2To, sumR]
    generalize sumR (gi u) n = A
    generalize sumR (fun i => gi u i * gi u i) n = B
    rw [show ((n + 1 : Nat) : Int) = (n : Int) + 1 by omega]
    generalize gi u i = x
    generalize gi u n = y
    grind
theorem sprTo_eq (u : List Int) : ∀ n, sprTo u n = n * s2To u n - s1To u n * s1To u n
  | 0 => by simp [sprTo, s1To, s2To, sumR]
  | n + 1 => by
    have ih := sprTo_eq u n
    have e : sprTo u (n + 1) = sprTo u n + sqTo2 u n n := rfl
    rw [e, ih, sqTo2_eq]
    simp only [s1To, s2To, sumR]
    generalize sumR (gi u) n = A
    generalize sumR (fun i => gi u i * gi u i) n = B
    rw [show ((n + 1 : Nat) : Int) = (n : Int) + 1 by omega]
    generalize gi u n = y
    grind
theorem sumR_list (u : List Int) (f : Int → Int) : sumR (fun i => f (gi u i)) u.length = (u.map f).sum := by
  induction u with
  | nil => rfl
  | cons x u ih =>
    have e : ∀ n, sumR (fun i => f (gi (x :: u) i)) (n + 1) = f x + sumR (fun i => f (gi u i)) n := fun n => by
      induction n with
      | zero => simp [sumR, gi]
      | succ n ihn =>
        have e1 : sumR (fun i => f (gi (x :: u) i)) (n + 1 + 1) = sumR (fun i => f (gi (x :: u) i)) (n + 1) + f (gi (x :: u) (n + 1)) := rfl
        have e2 : gi (x :: u) (n + 1) = gi u n := by simp [gi]
        rw [e1, ihn, e2]
        simp only [sumR]
        omega
    rw [List.length_cons, e, ih]; simp
end Go.Proofs.Ytfhgnmijigdlmaa
