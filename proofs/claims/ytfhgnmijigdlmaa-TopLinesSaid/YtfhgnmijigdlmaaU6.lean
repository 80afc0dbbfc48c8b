/- The plain law of TopLines: a line told by plans and by prices. No program in sight. -/
import Derived.Test.YtfhgnmijigdlmaaU2
import Derived.Test.YtfhgnmijigdlmaaPF
import Derived.Test.YtfhgnmijigdlmaaT7
namespace Go.Proofs.Ytfhgnmijigdlmaa.Tr
open Go.RowKit

theorem sumR_sumN (f : Nat → Int) : ∀ n, sumR f n = sumN f n
  | 0 => rfl
  | n + 1 => by show sumR f n + f n = sumN f n + f n; rw [sumR_sumN f n]
theorem count_sum (p : Int) : ∀ l : List Int, ((l.count p : Nat) : Int) = (l.map fun x => if x = p then (1 : Int) else 0).sum
  | [] => rfl
  | x :: l => by
    rw [List.count_cons, List.map_cons, List.sum_cons, ← count_sum p l]
    by_cases h : x = p
    · rw [if_pos h, if_pos (by simpa using h)]; omega
    · rw [if_neg h, if_neg (by simpa using h)]; omega
theorem rep_sum {α : Type} (f : α → Int) (x : α) : ∀ k : Nat, ((List.replicate k x).map f).sum = k * f x
  | 0 => by simp
  | k + 1 => by rw [List.replicate_succ, List.map_cons, List.sum_cons, rep_sum f x k, show ((k + 1 : Nat) : Int) = (k : Int) + 1 by omega, Int.add_mul, Int.one_mul]; omega
/-- the units of a plan, as pairs of places -/
def gridRow (a b : List Atom) (P : Nat → Nat → Int) (i m : Nat) : List (Int × Int) := (List.range m).flatMap fun j => List.replicate (P i j).toNat ((atK a i).p, (atK b j).p)
def gridQ (a b : List Atom) (P : Nat → Nat → Int) (m n : Nat) : List (Int × Int) := (List.range n).flatMap fun i => gridRow a b P i m
theorem gridRow_sum (f : Int × Int → Int) (a b : List Atom) (P : Nat → Nat → Int) (i : Nat) : ∀ m, (∀ j, j < m → 0 ≤ P i j) → ((gridRow a b P i m).map f).sum = sumN (fun j => P i j * f ((atK a i).p, (atK b j).p)) m
  | 0, _ => rfl
  | m + 1, h => by
    have ih := gridRow_sum f a b P i m (fun j hj => h j (by omega))
    have h1 := h m (by omega)
    unfold gridRow at *
    rw [List.range_succ, List.flatMap_append, List.map_append, List.sum_append, ih]
    simp only [List.flatMap_cons, List.flatMap_nil, List.append_nil]
    rw [rep_sum, Int.toNat_of_nonneg h1]
    rfl
theorem gridQ_sum (f : Int × Int → Int) (a b : List Atom) (P : Nat → Nat → Int) (m : Nat) : ∀ n, (∀ i j, i < n → j < m → 0 ≤ P i j) → ((gridQ a b P m n).map f).sum = sumN (fun i => sumN (fun j => P i j * f ((atK a i).p, (atK b j).p)) m) n
  | 0, _ => rfl
  | n + 1, h => by
    have ih := gridQ_sum f a b P m n (fun i j hi hj => h i j (by omega) hj)
    unfold gridQ at *
    rw [List.range_succ, List.flatMap_append, List.map_append, List.sum_append, ih]
    simp only [List.flatMap_cons, List.flatMap_nil, List.append_nil]
    rw [gridRow_sum f a b P n m (fun j hj => h n j (by omega) hj)]
    rfl
theorem load_pos {l : List Atom} (h : valLoad l = 0) : ∀ i, (hi : i < l.length) → 0 ≤ l[i].m := fun i hi => by have := ((fine_load h).2 i hi).2; omega
theorem mass_ind {l : List Atom} (h : valLoad l = 0) (p : Int) : sumN (fun i => if (atK l i).p = p then (atK l i).m else 0) l.length = massAt l p := by
  rw [← load_count h, count_sum, units_sum_all (load_pos h)]
  unfold momTo
  rw [sumR_sumN]
  refine sumN_congr fun i _ => ?_
  by_cases h2 : (atK l i).p = p <;> simp [h2]
/-- a plan between the atoms -/
def PlanA (a b : List Atom) (P : Nat → Nat → Int) : Prop := PlanT a.length b.length (fun i => (atK a i).m) (fun j => (atK b j).m) P
theorem plan_perm {a b : List Atom} {P : Nat → Nat → Int} (ha : valLoad a = 0) (hb : valLoad b = 0) (hP : PlanA a b P) :
    ((gridQ a b P b.length a.length).map Prod.fst).Perm (unitsL a) ∧ ((gridQ a b P b.length a.length).map Prod.snd).Perm (unitsL b) := by
  constructor
  · rw [List.perm_iff_count]
    intro p
    apply Int.ofNat.inj
    show (((List.map Prod.fst (gridQ a b P b.length a.length)).count p : Nat) : Int) = (((unitsL a).count p : Nat) : Int)
    rw [count_sum, List.map_map, load_count ha, ← mass_ind ha]
    rw [show ((fun x : Int => if x = p then (1 : Int) else 0) ∘ Prod.fst) = (fun q : Int × Int => if q.1 = p then (1 : Int) else 0) from rfl, gridQ_sum _ a b P b.length a.length hP.pos]
    refine sumN_congr fun i hi => ?_
    show sumN (fun j => P i j * (if (atK a i).p = p then (1 : Int) else 0)) b.length = _
    rw [sumN_dist, hP.rows i hi]
    by_cases h2 : (atK a i).p = p <;> simp [h2]
  · rw [List.perm_iff_count]
    intro p
    apply Int.ofNat.inj
    show (((List.map Prod.snd (gridQ a b P b.length a.length)).count p : Nat) : Int) = (((unitsL b).count p : Nat) : Int)
    rw [count_sum, List.map_map, load_count hb, ← mass_ind hb]
    rw [show ((fun x : Int => if x = p then (1 : Int) else 0) ∘ Prod.snd) = (fun q : Int × Int => if q.2 = p then (1 : Int) else 0) from rfl, gridQ_sum _ a b P b.length a.length hP.pos, sumN_swap]
    refine sumN_congr fun j hj => ?_
    show sumN (fun i => P i j * (if (atK b j).p = p then (1 : Int) else 0)) a.length = _
    rw [sumN_dist, hP.cols j hj]
    by_cases h2 : (atK b j).p = p <;> simp [h2]
/-- no plan costs less than the least by units -/
theorem plan_ge {a b : List Atom} {P : Nat → Nat → Int} {k : Int} (h : linePair a b = 0) (hk : k = 1 ∨ k = 2) (hP : PlanA a b P) : apartL a b k ≤ costT a.length b.length (dAt a b k) P := by
  obtain ⟨a1, a2, a3⟩ := linePair_ok h
  obtain ⟨p1, p2⟩ := plan_perm a1 a2 hP
  have hl := pair_len h
  have e : costT a.length b.length (dAt a b k) P = sumP (gridQ a b P b.length a.length) k := by
    unfold sumP costT
    rw [gridQ_sum _ a b P b.length a.length hP.pos]
    refine sumN_congr fun i _ => sumN_congr fun j _ => ?_
    rw [Int.mul_comm]; rfl
  rw [e]
  unfold apartL
  rw [← sumP_zip (unitsL a) (unitsL b) k hl]
  rcases hk with rfl | rfl
  · exact best_one p1 p2 (load_pw' a1) (load_pw' a2) hl (load_in a1) (load_in a2)
  · exact best_two p1 p2 (load_pw' a1) (load_pw' a2) hl (load_in a1) (load_in a2)

/-! the plan of moves -/
def planG (r c : Nat → Nat) (ms : Nat → Int) (q i j : Nat) : Int := sumN (fun s => if r s = i ∧ c s = j then ms s else 0) q
theorem planG_succ (r c : Nat → Nat) (ms : Nat → Int) (q i j : Nat) : planG r c ms (q + 1) i j = planG r c ms q i j + (if r q = i ∧ c q = j then ms q else 0) := rfl
theorem costT_add (n m : Nat) (w P Q : Nat → Nat → Int) : costT n m w (fun i j => P i j + Q i j) = costT n m w P + costT n m w Q := by
  unfold costT
  rw [← sumN_add]
  refine sumN_congr fun i _ => ?_
  rw [← sumN_add]
  exact sumN_congr fun j _ => Int.mul_add _ _ _
theorem costT_one {n m : Nat} (w : Nat → Nat → Int) {x y : Nat} (hx : x < n) (hy : y < m) (z : Int) : costT n m w (fun i j => if x = i ∧ y = j then z else 0) = w x y * z := by
  unfold costT
  rw [sumN_congr (g := fun i => if i = x then w i y * z else 0) (fun i _ => ?_), sumN_pick, if_pos hx]
  by_cases h : i = x
  · subst h
    rw [if_pos rfl, sumN_congr (g := fun j => if j = y then w i j * z else 0) (fun j _ => ?_), sumN_pick, if_pos hy]
    show w i j * (if i = i ∧ y = j then z else 0) = if j = y then w i j * z else 0
    by_cases h2 : j = y
    · subst h2; simp
    · rw [if_neg (fun e => h2 e.2.symm), if_neg h2, Int.mul_zero]
  · rw [if_neg h, sumN_congr (g := fun _ => 0) (fun j _ => by show w i j * (if x = i ∧ y = j then z else 0) = 0; rw [if_neg (fun e => h e.1.symm), Int.mul_zero]), sumN_zero]
theorem planG_w {n m : Nat} (w : Nat → Nat → Int) {r c : Nat → Nat} (ms : Nat → Int) : ∀ q, (∀ s, s < q → r s < n ∧ c s < m) → costT n m w (planG r c ms q) = sumN (fun s => w (r s) (c s) * ms s) q
  | 0, _ => by
    unfold costT
    rw [sumN_congr (g := fun _ => 0) (fun i _ => by rw [sumN_congr (g := fun _ => 0) (fun j _ => by show w i j * 0 = 0; simp), sumN_zero]), sumN_zero]
    rfl
  | q + 1, h => by
    have ih := planG_w w ms q (fun s hs => h s (by omega))
    have h1 := h q (by omega)
    rw [show planG r c ms (q + 1) = (fun i j => planG r c ms q i j + (if r q = i ∧ c q = j then ms q else 0)) from rfl, costT_add, ih, costT_one w h1.1 h1.2]
    rfl
theorem cost_row {n m i : Nat} (hi : i < n) (P : Nat → Nat → Int) : costT n m (fun i' _ => if i' = i then 1 else 0) P = sumN (P i) m := by
  unfold costT
  rw [sumN_congr (g := fun i' => if i' = i then sumN (P i') m else 0) (fun i' _ => ?_), sumN_pick, if_pos hi]
  by_cases h : i' = i
  · rw [if_pos h]; exact sumN_congr fun j _ => by show (if i' = i then (1 : Int) else 0) * P i' j = P i' j; rw [if_pos h, Int.one_mul]
  · rw [if_neg h, sumN_congr (g := fun _ => 0) (fun j _ => by show (if i' = i then (1 : Int) else 0) * P i' j = 0; rw [if_neg h, Int.zero_mul]), sumN_zero]
theorem cost_col {n m j : Nat} (hj : j < m) (P : Nat → Nat → Int) : costT n m (fun _ j' => if j' = j then 1 else 0) P = sumN (fun i => P i j) n := by
  unfold costT
  refine sumN_congr fun i _ => ?_
  rw [sumN_congr (g := fun j' => if j' = j then P i j' else 0) (fun j' _ => ?_), sumN_pick, if_pos hj]
  show (if j' = j then (1 : Int) else 0) * P i j' = if j' = j then P i j' else 0
  by_cases h : j' = j <;> simp [h]
/-- the table of a plan grows by a move -/
theorem mk_move {n m : Nat} {r c : Nat → Nat} {ms : Nat → Int} {q : Nat} (hr : r q < n) (hc : c q < m) :
    setT (mk n m (planG r c ms q)) (r q) (c q) (planG r c ms q (r q) (c q) + ms q) = mk n m (planG r c ms (q + 1)) := by
  have h1 : r q < (mk n m (planG r c ms q)).length := by rw [mk_len]; exact hr
  have h2 : c q < (row (mk n m (planG r c ms q)) (r q)).length := by rw [mk_cols _ hr]; exact hc
  rw [← mk_of (n := n) (m := m) (t := setT (mk n m (planG r c ms q)) (r q) (c q) (planG r c ms q (r q) (c q) + ms q)) (by rw [setT_len, mk_len]) (fun i hi => by rw [cols_setT _ _ h1, mk_cols _ hi])]
  refine mk_eq fun i j hi hj => ?_
  rw [tg_setT _ _ h1 h2, tg_mk _ hi hj, planG_succ]
  by_cases e : i = r q ∧ j = c q
  · obtain ⟨rfl, rfl⟩ := e
    rw [if_pos ⟨rfl, rfl⟩, if_pos ⟨rfl, rfl⟩]
  · rw [if_neg e, if_neg (fun h => e ⟨h.1.symm, h.2.symm⟩)]; omega
/-- where an atom with a place stands -/
def ixP (l : List Atom) (p : Int) : Nat := l.findIdx fun x => decide (x.p = p)
theorem ixP_ok {l : List Atom} {p : Int} (h : ∃ x ∈ l, x.p = p) : ixP l p < l.length ∧ (atK l (ixP l p)).p = p ∧ ∀ j, j < ixP l p → (atK l j).p ≠ p := by
  have h1 : ixP l p < l.length := List.findIdx_lt_length_of_exists (by obtain ⟨x, hx, e⟩ := h; exact ⟨x, hx, decide_eq_true e⟩)
  refine ⟨h1, ?_, fun j hj => ?_⟩
  · rw [atK_at h1]
    exact of_decide_eq_true (List.findIdx_getElem (w := h1) (p := fun x : Atom => decide (x.p = p)))
  · have h2 := List.not_of_lt_findIdx (p := fun x : Atom => decide (x.p = p)) hj
    rw [atK_at (by omega)]
    simpa using h2
theorem load_inj {l : List Atom} (h : valLoad l = 0) {i j : Nat} (hi : i < l.length) (hj : j < l.length) (e : (atK l i).p = (atK l j).p) : i = j := by
  have hp := load_pw h
  rw [List.pairwise_iff_getElem] at hp
  rw [atK_at hi, atK_at hj] at e
  rcases Nat.lt_trichotomy i j with h1 | h1 | h1
  · have := hp i j hi hj h1; omega
  · exact h1
  · have := hp j i hj hi h1; omega
/-- the plan of the first q ordered moves -/
def rowM (a b : List Atom) (s : Nat) : Nat := ixP a (mvK (ordL a b) s).fr
def colM (a b : List Atom) (s : Nat) : Nat := ixP b (mvK (ordL a b) s).to
def masM (a b : List Atom) (s : Nat) : Int := (mvK (ordL a b) s).m
def planO (a b : List Atom) (q : Nat) : Nat → Nat → Int := planG (rowM a b) (colM a b) (masM a b) q
structure OrdOk (a b : List Atom) : Prop where
  len : (ordL a b).length ≤ 12
  mas : ∀ s, s < (ordL a b).length → 1 ≤ masM a b s ∧ masM a b s ≤ 30
  row : ∀ s, s < (ordL a b).length → rowM a b s < a.length ∧ (atK a (rowM a b s)).p = (mvK (ordL a b) s).fr ∧ ∀ j, j < rowM a b s → (atK a j).p ≠ (mvK (ordL a b) s).fr
  col : ∀ s, s < (ordL a b).length → colM a b s < b.length ∧ (atK b (colM a b s)).p = (mvK (ordL a b) s).to ∧ ∀ j, j < colM a b s → (atK b j).p ≠ (mvK (ordL a b) s).to
  leave : ∀ p, leaveTo (ordL a b) p (ordL a b).length = massAt a p
  come : ∀ p, comeTo (ordL a b) p (ordL a b).length = massAt b p
  cost : ∀ k, costTo (ordL a b) k (ordL a b).length = apartL a b k
theorem ord_ok {a b : List Atom} (h : linePair a b = 0) : OrdOk a b := by
  obtain ⟨a1, a2, a3⟩ := linePair_ok h
  obtain ⟨f1, f2, f3⟩ := ordL_facts (fine_load a1) (fine_load a2) (load_pw a1) (load_pw a2) (pair_len h)
  have hla := (listErr_ok a1).1
  have hlb := (listErr_ok a2).1
  obtain ⟨o1, o2, o3⟩ := ordered_said h f1 (by omega) (fun x hx => (f3 x hx).1.1)
  obtain ⟨c1, c2, c3⟩ := chkErr_ok o1
  obtain ⟨m1, m2⟩ := movesErr_ok c2
  have hall := (balB_all a1 a2 m2).1 c3
  have hbal : ∀ p, leaveTo (ordL a b) p (ordL a b).length = massAt a p ∧ comeTo (ordL a b) p (ordL a b).length = massAt b p := fun p => by
    have := hall p
    unfold balAt at this
    simp only [Bool.and_eq_true, decide_eq_true_eq] at this
    exact this
  have hin : ∀ s, (hs : s < (ordL a b).length) → ((ordL a b)[s].fr, (ordL a b)[s].to) ∈ (unitsL a).zip (unitsL b) := fun s hs => by
    rw [← f1]
    unfold pairsM
    refine List.mem_flatMap.2 ⟨(ordL a b)[s], List.getElem_mem hs, List.mem_replicate.2 ⟨?_, rfl⟩⟩
    have := (f3 _ (List.getElem_mem hs)).1.1; omega
  have hun : ∀ {l : List Atom} {p : Int}, p ∈ unitsL l → ∃ x ∈ l, x.p = p := fun {l p} hp => by
    unfold unitsL at hp
    obtain ⟨x, hx, h2⟩ := List.mem_flatMap.1 hp
    exact ⟨x, hx, (List.mem_replicate.1 h2).2.symm⟩
  have hm' : ∀ i, (hi : i < (ordL a b).length) → 0 ≤ (ordL a b)[i].m := fun i hi => by have := (f3 _ (List.getElem_mem hi)).1.1; omega
  refine ⟨m1, fun s hs => ?_, fun s hs => ?_, fun s hs => ?_, fun p => (hbal p).1, fun p => (hbal p).2, o3⟩
  · have b1 := leave_ge hm' hs
    rw [(hbal _).1] at b1
    have b2 := load_mass a1 (ordL a b)[s].fr
    have b3 := (f3 _ (List.getElem_mem hs)).1.1
    unfold masM
    rw [mvK_at hs]
    omega
  · have := hun (List.of_mem_zip (hin s hs)).1
    unfold rowM
    rw [mvK_at hs]
    exact ixP_ok this
  · have := hun (List.of_mem_zip (hin s hs)).2
    unfold colM
    rw [mvK_at hs]
    exact ixP_ok this
theorem ord_plan {a b : List Atom} (h : linePair a b = 0) : PlanA a b (planO a b (ordL a b).length) ∧ (∀ k, costT a.length b.length (dAt a b k) (planO a b (ordL a b).length) = apartL a b k) ∧ ∀ i j, 0 ≤ planO a b (ordL a b).length i j := by
  obtain ⟨a1, a2, a3⟩ := linePair_ok h
  have O := ord_ok h
  have hrc : ∀ s, s < (ordL a b).length → rowM a b s < a.length ∧ colM a b s < b.length := fun s hs => ⟨(O.row s hs).1, (O.col s hs).1⟩
  have hpos : ∀ i j, 0 ≤ planO a b (ordL a b).length i j := fun i j => sumN_nonneg fun s hs => by
    have := (O.mas s hs).1
    split <;> omega
  refine ⟨⟨fun i j _ _ => hpos i j, fun i hi => ?_, fun j hj => ?_⟩, fun k => ?_, hpos⟩
  · rw [← cost_row hi, planO, planG_w _ _ _ hrc]
    rw [show (atK a i).m = massAt a (atK a i).p by rw [atK_at hi, massAt_hit (listErr_ok a1).2 hi], ← O.leave]
    unfold leaveTo
    rw [sumR_sumN]
    refine sumN_congr fun s hs => ?_
    have r := O.row s hs
    by_cases e : rowM a b s = i
    · show (if rowM a b s = i then (1 : Int) else 0) * masM a b s = if (mvK (ordL a b) s).fr = (atK a i).p then masM a b s else 0; rw [if_pos e, if_pos (by rw [← r.2.1, e]), Int.one_mul]
    · show (if rowM a b s = i then (1 : Int) else 0) * masM a b s = if (mvK (ordL a b) s).fr = (atK a i).p then masM a b s else 0; rw [if_neg e, if_neg (fun e2 => e (load_inj a1 r.1 hi (by rw [r.2.1, e2]))), Int.zero_mul]
  · rw [← cost_col hj, planO, planG_w _ _ _ hrc]
    rw [show (atK b j).m = massAt b (atK b j).p by rw [atK_at hj, massAt_hit (listErr_ok a2).2 hj], ← O.come]
    unfold comeTo
    rw [sumR_sumN]
    refine sumN_congr fun s hs => ?_
    have r := O.col s hs
    by_cases e : colM a b s = j
    · show (if colM a b s = j then (1 : Int) else 0) * masM a b s = if (mvK (ordL a b) s).to = (atK b j).p then masM a b s else 0; rw [if_pos e, if_pos (by rw [← r.2.1, e]), Int.one_mul]
    · show (if colM a b s = j then (1 : Int) else 0) * masM a b s = if (mvK (ordL a b) s).to = (atK b j).p then masM a b s else 0; rw [if_neg e, if_neg (fun e2 => e (load_inj a2 r.1 hj (by rw [r.2.1, e2]))), Int.zero_mul]
  · rw [planO, planG_w _ _ _ hrc, ← O.cost]
    unfold costTo
    rw [sumR_sumN]
    refine sumN_congr fun s hs => ?_
    unfold dAt
    rw [(O.row s hs).2.1, (O.col s hs).2.1, Int.mul_comm]; rfl
end Go.Proofs.Ytfhgnmijigdlmaa.Tr
