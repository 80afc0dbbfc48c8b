/- Moves told as pairs of units; their costs; runs; the state of the ordered moves. No program in sight. -/
import Derived.Test.YtfhgnmijigdlmaaPA
namespace Go.Proofs.Ytfhgnmijigdlmaa
open Go.RowKit

def pairsM (M : List Move) : List (Int × Int) := M.flatMap fun x => List.replicate x.m.toNat (x.fr, x.to)
theorem pairsM_app (M N : List Move) : pairsM (M ++ N) = pairsM M ++ pairsM N := by simp [pairsM]
theorem pairsM_one (p q m : Int) : pairsM [⟨p, q, m⟩] = List.replicate m.toNat (p, q) := by simp [pairsM]
def addM (out : List Move) (q : Int × Int) : List Move :=
  match out.getLast? with
  | some x => if x.fr = q.1 ∧ x.to = q.2 then out.dropLast ++ [{ x with m := x.m + 1 }] else out ++ [⟨q.1, q.2, 1⟩]
  | none => [⟨q.1, q.2, 1⟩]
/-- equal pairs that follow each other, put together -/
def runs (Q : List (Int × Int)) : List Move := Q.foldl addM []
theorem addM_snoc (out : List Move) (p q m : Int) : addM (out ++ [⟨p, q, m⟩]) (p, q) = out ++ [⟨p, q, m + 1⟩] := by
  unfold addM
  simp [List.getLast?_append]
theorem addM_new {out : List Move} {p q : Int} (h : ∀ x, out.getLast? = some x → x.fr ≠ p ∨ x.to ≠ q) : addM out (p, q) = out ++ [⟨p, q, 1⟩] := by
  unfold addM
  cases hx : out.getLast? with
  | none => simp only; rw [List.getLast?_eq_none_iff] at hx; subst hx; rfl
  | some x =>
    simp only
    rw [if_neg]
    rintro ⟨h1, h2⟩
    rcases h x hx with h3 | h3
    · exact h3 h1
    · exact h3 h2
theorem foldM_replicate {out : List Move} {p q : Int} (h : ∀ x, out.getLast? = some x → x.fr ≠ p ∨ x.to ≠ q) : ∀ n : Nat, (List.replicate (n + 1) (p, q)).foldl addM out = out ++ [⟨p, q, ((n + 1 : Nat) : Int)⟩]
  | 0 => by simp [addM_new h]
  | n + 1 => by
    rw [List.replicate_succ', List.foldl_append, foldM_replicate h n]
    simp only [List.foldl_cons, List.foldl_nil]
    rw [addM_snoc]
    congr 1
theorem runs_snoc {M : List Move} {p q n : Int} (hr : runs (pairsM M) = M) (h : ∀ x, M.getLast? = some x → x.fr ≠ p ∨ x.to ≠ q) (hn : 1 ≤ n) : runs (pairsM (M ++ [⟨p, q, n⟩])) = M ++ [⟨p, q, n⟩] := by
  obtain ⟨k, hk⟩ : ∃ k, n.toNat = k + 1 := ⟨n.toNat - 1, by omega⟩
  unfold runs at hr ⊢
  rw [pairsM_app, List.foldl_append, hr, pairsM_one, hk, foldM_replicate h]
  congr 3
  omega
/-- the sum of the prices of pairs -/
def sumP (Q : List (Int × Int)) (k : Int) : Int := (Q.map fun q => priceV q.1 q.2 k).sum
theorem sumP_app (Q R : List (Int × Int)) (k : Int) : sumP (Q ++ R) k = sumP Q k + sumP R k := by simp [sumP]
theorem sumP_rep (p q k : Int) : ∀ n : Nat, sumP (List.replicate n (p, q)) k = n * priceV p q k
  | 0 => by simp [sumP]
  | n + 1 => by
    have ih := sumP_rep p q k n
    rw [List.replicate_succ]
    unfold sumP at ih ⊢
    rw [List.map_cons, List.sum_cons, ih]
    simp only
    rw [show ((n + 1 : Nat) : Int) = (n : Int) + 1 by omega, Int.add_mul, Int.one_mul]
    omega
theorem sumP_zip : ∀ (u v : List Int) (k : Int), u.length = v.length → sumP (u.zip v) k = apartTo u v k u.length
  | [], [], k, _ => by simp [sumP, apartTo]
  | a :: u, b :: v, k, h => by
    have ih := sumP_zip u v k (by simpa using h)
    rw [apartTo_sum] at ih ⊢
    have e : ∀ n, sumR (fun i => priceV (gi (a :: u) i) (gi (b :: v) i) k) (n + 1) = priceV a b k + sumR (fun i => priceV (gi u i) (gi v i) k) n := fun n => by
      induction n with
      | zero => simp [sumR, gi]
      | succ n ihn =>
        have e1 : sumR (fun i => priceV (gi (a :: u) i) (gi (b :: v) i) k) (n + 1 + 1) = sumR (fun i => priceV (gi (a :: u) i) (gi (b :: v) i) k) (n + 1) + priceV (gi (a :: u) (n + 1)) (gi (b :: v) (n + 1)) k := rfl
        have e2 : gi (a :: u) (n + 1) = gi u n := by simp [gi]
        have e3 : gi (b :: v) (n + 1) = gi v n := by simp [gi]
        rw [e1, ihn, e2, e3]
        simp only [sumR]
        omega
    rw [List.length_cons, e, ← ih]
    simp [sumP]
def mvK (M : List Move) (i : Nat) : Move := M[i]?.getD ⟨0, 0, 0⟩
theorem mvK_at {M : List Move} {i : Nat} (h : i < M.length) : mvK M i = M[i] := by simp [mvK, h]
/-- the cost of the first n moves -/
def costTo (M : List Move) (k : Int) (n : Nat) : Int := sumR (fun i => (mvK M i).m * priceV (mvK M i).fr (mvK M i).to k) n
theorem cost_pairs {M : List Move} (hm : ∀ i, (hi : i < M.length) → 0 ≤ M[i].m) (k : Int) : ∀ n, n ≤ M.length → costTo M k n = sumP (pairsM (M.take n)) k
  | 0, _ => by simp [costTo, sumR, sumP, pairsM]
  | n + 1, hn => by
    have ih := cost_pairs hm k n (by omega)
    have h1 := hm n (by omega)
    rw [List.take_succ_eq_append_getElem (by omega), pairsM_app, sumP_app, ← ih]
    have e : pairsM [M[n]] = List.replicate M[n].m.toNat (M[n].fr, M[n].to) := by simp [pairsM]
    rw [e, sumP_rep]
    unfold costTo
    simp only [sumR]
    rw [mvK_at (by omega)]
    congr 2
    omega
theorem cost_all {M : List Move} (hm : ∀ i, (hi : i < M.length) → 0 ≤ M[i].m) (k : Int) : costTo M k M.length = sumP (pairsM M) k := by
  rw [cost_pairs hm k _ (Nat.le_refl _), List.take_length]

/-- what is left of a load's units, if the atom i has still r -/
def remU (l : List Atom) (i : Nat) (r : Int) : List Int := List.replicate (if i < l.length then r.toNat else 0) (atK l i).p ++ unitsL (l.drop (i + 1))
theorem remU_start {l : List Atom} : remU l 0 (atK l 0).m = unitsL l := by
  cases l with
  | nil => simp [remU, unitsL]
  | cons x l => simp [remU, unitsL, atK]
theorem remU_end {l : List Atom} {i : Nat} (h : l.length ≤ i) (r : Int) : remU l i r = [] := by
  unfold remU; rw [if_neg (by omega), List.drop_eq_nil_of_le (by omega)]; simp [unitsL]
theorem remU_next {l : List Atom} {i : Nat} (h : i < l.length) : remU l (i + 1) (atK l (i + 1)).m = unitsL (l.drop (i + 1)) := by
  by_cases h2 : i + 1 < l.length
  · unfold remU
    rw [if_pos h2, List.drop_eq_getElem_cons h2, atK_at h2]
    simp only [unitsL, List.flatMap_cons]
  · rw [remU_end (by omega), List.drop_eq_nil_of_le (by omega)]; simp [unitsL]
theorem remU_cut {l : List Atom} {i : Nat} (h : i < l.length) {r n : Int} (hn : 0 ≤ n) (hr : n ≤ r) : remU l i r = List.replicate n.toNat l[i].p ++ (if r = n then remU l (i + 1) (atK l (i + 1)).m else remU l i (r - n)) := by
  by_cases e : r = n
  · rw [if_pos e, remU_next h]
    unfold remU
    rw [if_pos h, atK_at h, e]
  · rw [if_neg e]
    unfold remU
    rw [if_pos h, if_pos h, atK_at h, ← List.append_assoc, List.replicate_append_replicate]
    congr 2
    omega
theorem remU_len_pos {l : List Atom} {i : Nat} (h : i < l.length) {r : Int} (hr : 1 ≤ r) : 0 < (remU l i r).length := by
  unfold remU; rw [if_pos h, List.length_append, List.length_replicate]; omega
/-- the state of the ordered moves: the atoms i and j have ra and rb left -/
structure OrdSt (a b : List Atom) (i : Nat) (ra : Int) (j : Nat) (rb : Int) (M : List Move) : Prop where
  ia : i ≤ a.length
  jb : j ≤ b.length
  rem : pairsM M ++ (remU a i ra).zip (remU b j rb) = (unitsL a).zip (unitsL b)
  len : (remU a i ra).length = (remU b j rb).length
  run : runs (pairsM M) = M
  last : ∀ x, M.getLast? = some x → i < a.length → j < b.length → x.fr ≠ a[i]!.p ∨ x.to ≠ b[j]!.p
  ra1 : i < a.length → 1 ≤ ra ∧ ra ≤ 1000
  rb1 : j < b.length → 1 ≤ rb ∧ rb ≤ 1000
  cnt : M.length ≤ i + j
  mass : ∀ x ∈ M, (1 ≤ x.m ∧ x.m ≤ 1000) ∧ (-60000 ≤ x.fr ∧ x.fr ≤ 60000) ∧ (-60000 ≤ x.to ∧ x.to ≤ 60000)
theorem ordSt_start {a b : List Atom} (ha : Fine a) (hb : Fine b) (ht : (unitsL a).length = (unitsL b).length) : OrdSt a b 0 (atK a 0).m 0 (atK b 0).m [] where
  ia := Nat.zero_le _
  jb := Nat.zero_le _
  rem := by rw [remU_start, remU_start]; simp [pairsM]
  len := by rw [remU_start, remU_start]; exact ht
  run := rfl
  last := fun x hx => by simp at hx
  ra1 := fun h => by rw [atK_at h]; exact (ha.2 0 h).2
  rb1 := fun h => by rw [atK_at h]; exact (hb.2 0 h).2
  cnt := by simp
  mass := fun x hx => by simp at hx
theorem bang_at {α : Type} [Inhabited α] {l : List α} {i : Nat} (h : i < l.length) : l[i]! = l[i] := by simp [h]
theorem ordSt_step {a b : List Atom} {i : Nat} {ra : Int} {j : Nat} {rb : Int} {M : List Move} (ha : Fine a) (hb : Fine b) (pa : a.Pairwise (fun x y => x.p < y.p)) (pb : b.Pairwise (fun x y => x.p < y.p)) (h : OrdSt a b i ra j rb M) (hi : i < a.length) (hj : j < b.length) {n : Int} (hn : n = min ra rb) :
    OrdSt a b (if ra = n then i + 1 else i) (if ra = n then (atK a (i + 1)).m else ra - n) (if rb = n then j + 1 else j) (if rb = n then (atK b (j + 1)).m else rb - n) (M ++ [⟨a[i].p, b[j].p, n⟩]) := by
  have hra := h.ra1 hi
  have hrb := h.rb1 hj
  have hn1 : 1 ≤ n := by omega
  have e1 := remU_cut hi (r := ra) (n := n) (by omega) (by omega)
  have e2 := remU_cut hj (r := rb) (n := n) (by omega) (by omega)
  have r1 : (if ra = n then remU a (i + 1) (atK a (i + 1)).m else remU a i (ra - n)) = remU a (if ra = n then i + 1 else i) (if ra = n then (atK a (i + 1)).m else ra - n) := by split <;> rfl
  have r2 : (if rb = n then remU b (j + 1) (atK b (j + 1)).m else remU b j (rb - n)) = remU b (if rb = n then j + 1 else j) (if rb = n then (atK b (j + 1)).m else rb - n) := by split <;> rfl
  rw [r1] at e1
  rw [r2] at e2
  have hlast := fun x hx => by have := h.last x hx hi hj; rwa [bang_at hi, bang_at hj] at this
  refine ⟨by split <;> omega, by split <;> omega, ?_, ?_, runs_snoc h.run hlast hn1, ?_, ?_, ?_, ?_, ?_⟩
  · rw [← h.rem, e1, e2, pairsM_app, pairsM_one, List.zip_append (by simp), List.append_assoc]
    congr 2
    rw [List.zip_replicate']
  · have := h.len
    rw [e1, e2] at this
    simpa using this
  · intro x hx h1 h2
    rw [List.getLast?_append] at hx
    simp at hx
    subst hx
    rw [bang_at h1, bang_at h2]
    rw [List.pairwise_iff_getElem] at pa pb
    by_cases c1 : ra = n
    · left
      simp only [if_pos c1] at h1 ⊢
      have := pa i (i + 1) hi h1 (by omega)
      omega
    · right
      have c2 : rb = n := by omega
      simp only [if_pos c2] at h2 ⊢
      have := pb j (j + 1) hj h2 (by omega)
      omega
  · intro h1
    by_cases c1 : ra = n
    · simp only [if_pos c1] at h1 ⊢
      rw [atK_at h1]; exact (ha.2 _ h1).2
    · simp only [if_neg c1] at h1 ⊢
      omega
  · intro h1
    by_cases c1 : rb = n
    · simp only [if_pos c1] at h1 ⊢
      rw [atK_at h1]; exact (hb.2 _ h1).2
    · simp only [if_neg c1] at h1 ⊢
      omega
  · have := h.cnt
    rw [List.length_append]
    simp only [List.length_cons, List.length_nil]
    by_cases c1 : ra = n
    · rw [if_pos c1]; split <;> omega
    · rw [if_neg c1, if_pos (by omega)]; omega
  · intro x hx
    rcases List.mem_append.1 hx with h1 | h1
    · exact h.mass x h1
    · simp at h1
      subst h1
      exact ⟨by simp only; omega, (ha.2 i hi).1, (hb.2 j hj).1⟩
/-- the ordered moves from a load to another one -/
def ordL (a b : List Atom) : List Move := runs ((unitsL a).zip (unitsL b))
theorem ordSt_end {a b : List Atom} {i : Nat} {ra : Int} {j : Nat} {rb : Int} {M : List Move} (h : OrdSt a b i ra j rb M) (he : a.length ≤ i ∨ b.length ≤ j) : pairsM M = (unitsL a).zip (unitsL b) ∧ M = ordL a b := by
  have hr := h.rem
  have e : (remU a i ra).zip (remU b j rb) = [] := by
    rcases he with he | he
    · rw [remU_end he]; simp
    · rw [remU_end he]; simp
  rw [e, List.append_nil] at hr
  refine ⟨hr, ?_⟩
  unfold ordL
  rw [← hr, h.run]
theorem ordSt_runs {a b : List Atom} (ha : Fine a) (hb : Fine b) (pa : a.Pairwise (fun x y => x.p < y.p)) (pb : b.Pairwise (fun x y => x.p < y.p)) : ∀ (d : Nat) {i j : Nat} {ra rb : Int} {M : List Move}, a.length - i + (b.length - j) ≤ d → OrdSt a b i ra j rb M →
    ∃ i' j' ra' rb' M', OrdSt a b i' ra' j' rb' M' ∧ (a.length ≤ i' ∨ b.length ≤ j')
  | 0, i, j, ra, rb, M, hd, h => ⟨i, j, ra, rb, M, h, by omega⟩
  | d + 1, i, j, ra, rb, M, hd, h => by
    by_cases hi : i < a.length
    · by_cases hj : j < b.length
      · have hs := ordSt_step ha hb pa pb h hi hj (n := min ra rb) rfl
        refine ordSt_runs ha hb pa pb d ?_ hs
        by_cases c : ra = min ra rb
        · rw [if_pos c]; split <;> omega
        · rw [if_neg c, if_pos (by omega)]; omega
      · exact ⟨i, j, ra, rb, M, h, .inr (by omega)⟩
    · exact ⟨i, j, ra, rb, M, h, .inl (by omega)⟩
/-- what is known of the ordered moves -/
theorem ordL_facts {a b : List Atom} (ha : Fine a) (hb : Fine b) (pa : a.Pairwise (fun x y => x.p < y.p)) (pb : b.Pairwise (fun x y => x.p < y.p)) (ht : (unitsL a).length = (unitsL b).length) :
    pairsM (ordL a b) = (unitsL a).zip (unitsL b) ∧ (ordL a b).length ≤ a.length + b.length ∧ ∀ x ∈ ordL a b, (1 ≤ x.m ∧ x.m ≤ 1000) ∧ (-60000 ≤ x.fr ∧ x.fr ≤ 60000) ∧ (-60000 ≤ x.to ∧ x.to ≤ 60000) := by
  obtain ⟨i, j, ra, rb, M, h, he⟩ := ordSt_runs ha hb pa pb _ (Nat.le_refl _) (ordSt_start ha hb ht)
  obtain ⟨h1, rfl⟩ := ordSt_end h he
  have := h.ia
  have := h.jb
  have := h.cnt
  exact ⟨h1, by omega, h.mass⟩
/-- the opened atoms: place, mass, what is left -/
def opens (a : List Atom) (i : Nat) (r : Int) : List Opn := (List.range a.length).map fun k => ⟨(atK a k).p, (atK a k).m, if k < i then 0 else if k = i then r else (atK a k).m⟩
theorem opens_length (a : List Atom) (i : Nat) (r : Int) : (opens a i r).length = a.length := by simp [opens]
theorem opens_at {a : List Atom} {i : Nat} {r : Int} (h : i < a.length) : (opens a i r)[i]'(by rw [opens_length]; exact h) = ⟨a[i].p, a[i].m, r⟩ := by
  simp only [opens, List.getElem_map, List.getElem_range]
  rw [atK_at h, if_neg (by omega)]; simp
theorem opens_set {a : List Atom} {i : Nat} {r r' : Int} (h : i < a.length) : (opens a i r).set i ⟨a[i].p, a[i].m, r'⟩ = opens a i r' := by
  refine List.ext_getElem (by simp [opens_length]) fun k h1 h2 => ?_
  rw [List.getElem_set]
  by_cases e : i = k
  · subst e
    rw [if_pos rfl, opens_at h]
  · rw [if_neg e]
    simp only [opens, List.getElem_map, List.getElem_range]
    by_cases c : k < i
    · rw [if_pos c, if_pos c]
    · rw [if_neg c, if_neg c, if_neg (by omega), if_neg (by omega)]
theorem opens_next (a : List Atom) (i : Nat) : opens a i 0 = opens a (i + 1) (atK a (i + 1)).m := by
  unfold opens
  refine List.map_congr_left fun k _ => ?_
  by_cases c : k < i
  · rw [if_pos c, if_pos (by omega)]
  · by_cases e : k = i
    · rw [if_neg c, if_pos e, if_pos (by omega)]
    · rw [if_neg c, if_neg e, if_neg (by omega)]
      by_cases e2 : k = i + 1
      · rw [if_pos e2, e2]
      · rw [if_neg e2]
theorem opens_start (a : List Atom) : opnV (opens a 0 (atK a 0).m) = openV a := by
  unfold opnV openV opens
  rw [List.flatMap_map]
  have : a = (List.range a.length).map (atK a) := by
    refine List.ext_getElem (by simp) fun k h1 h2 => ?_
    simp only [List.getElem_map, List.getElem_range]
    rw [atK_at h1]
  conv => rhs; rw [this]
  rw [List.flatMap_map]
  congr 1
  funext k
  simp only [show ¬ k < 0 by omega, if_false]
  split
  · next e => rw [e]
  · rfl
end Go.Proofs.Ytfhgnmijigdlmaa
