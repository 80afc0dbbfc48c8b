/- Opened atoms; moves as pairs of units; the ordered moves are least; loads and moves. Printed by gen_T24.py from wip/gen (genrec, PB, PC, PD, PE). -/
import Derived.Test.YtgnjaapjaglleaaP17
import Derived.Test.YtgnjaapjaglleaaT23
namespace Go.Proofs.Ytgnjaapjaglleaa
open Go.ChangeShapes Go.WideShapes Go.ChangeAt Go.RowKit Go.Deep

structure Opn where
  p : Int
  m : Int
  l : Int
  deriving DecidableEq, Inhabited
def Opns (w : World) (a : Option Addr) (l : List Opn) : Prop :=
  ∀ j, (hj : j < l.length) → ∃ b off, a = some ⟨b, off, none⟩ ∧ b < w.heap.size ∧ w.cell? ⟨b, off + j * 3, none⟩ = some (.int .i64 l[j].p) ∧ w.cell? ⟨b, off + j * 3 + 1, none⟩ = some (.int .i64 l[j].m) ∧ w.cell? ⟨b, off + j * 3 + 2, none⟩ = some (.int .i64 l[j].l)
theorem Opns.ext {w w' : World} {a : Option Addr} {l : List Opn} (h : Opns w a l) (hE : Ext w w') : Opns w' a l := fun j hj => by
  obtain ⟨b, off, ha, hb, h1, h2, h3⟩ := h j hj
  exact ⟨b, off, ha, Nat.lt_of_lt_of_le hb hE.size, (hE.cell' hb).trans h1, (hE.cell' hb).trans h2, (hE.cell' hb).trans h3⟩
def opnV (l : List Opn) : List Value := l.flatMap fun s => [.int .i64 s.p, .int .i64 s.m, .int .i64 s.l]
theorem opnV_length (l : List Opn) : (opnV l).length = l.length * 3 := by
  induction l with
  | nil => rfl
  | cons s l ih => simp only [opnV, List.flatMap_cons, List.length_append, List.length_cons, List.length_nil] at ih ⊢; omega
theorem opnV_append (l k : List Opn) : opnV (l ++ k) = opnV l ++ opnV k := by simp [opnV]
theorem opnV_one (s : Opn) : opnV [s] = [.int .i64 s.p, .int .i64 s.m, .int .i64 s.l] := by simp [opnV]
theorem opnV_at : ∀ (l : List Opn) (i : Nat) (hi : i < l.length), (opnV l)[i * 3]? = some (.int .i64 l[i].p) ∧ (opnV l)[i * 3 + 1]? = some (.int .i64 l[i].m) ∧ (opnV l)[i * 3 + 2]? = some (.int .i64 l[i].l)
  | s :: l, 0, _ => by simp [opnV]
  | s :: l, i + 1, hi => by
    have h := opnV_at l i (by simpa using hi)
    have e : opnV (s :: l) = [.int .i64 s.p, .int .i64 s.m, .int .i64 s.l] ++ opnV l := by simp [opnV]
    rw [e]
    refine ⟨?_, ?_, ?_⟩
    · rw [List.getElem?_append_right (by simp; omega), show (i + 1) * 3 - [Value.int .i64 s.p, .int .i64 s.m, .int .i64 s.l].length = i * 3 by simp; omega]; exact h.1
    · rw [List.getElem?_append_right (by simp; omega), show (i + 1) * 3 + 1 - [Value.int .i64 s.p, .int .i64 s.m, .int .i64 s.l].length = i * 3 + 1 by simp; omega]; exact h.2.1
    · rw [List.getElem?_append_right (by simp; omega), show (i + 1) * 3 + 2 - [Value.int .i64 s.p, .int .i64 s.m, .int .i64 s.l].length = i * 3 + 2 by simp; omega]; exact h.2.2
theorem opnV_one_cell (l : List Opn) : ∀ u ∈ opnV l, u.oneCell' = true := by
  intro u hu
  simp only [opnV, List.mem_flatMap] at hu
  obtain ⟨s, _, hs⟩ := hu
  simp at hs
  rcases hs with rfl | rfl | rfl <;> rfl
theorem reads_opns {w : World} {a : Option Addr} {l : List Opn} (h : Opns w a l) : Reads w w.heap.size 3 a l.length (opnV l) := by
  refine ⟨opnV_length l, fun h0 => ?_⟩
  obtain ⟨b, off, rfl, hb, _⟩ := h 0 h0
  refine ⟨_, rfl, hb, fun j u hu => ?_⟩
  rw [add_at]
  have hj : j < l.length * 3 := by
    have := (List.getElem?_eq_some_iff.1 hu).1
    rwa [opnV_length] at this
  have hi : j / 3 < l.length := by omega
  obtain ⟨b', off', he, _, c0, c1, c2⟩ := h (j / 3) hi
  simp only [Option.some.injEq, Addr.mk.injEq] at he
  obtain ⟨rfl, rfl, -⟩ := he
  obtain ⟨v0, v1, v2⟩ := opnV_at l (j / 3) hi
  have h3 : j % 3 = 0 ∨ j % 3 = 1 ∨ j % 3 = 2 := by omega
  rcases h3 with h3 | h3 | h3
  · have e : j = j / 3 * 3 := by omega
    rw [e] at hu ⊢
    rw [v0] at hu
    rw [← hu]; exact c0
  · have e : j = j / 3 * 3 + 1 := by omega
    rw [e] at hu ⊢
    rw [v1] at hu
    rw [← hu]; exact c1
  · have e : j = j / 3 * 3 + 2 := by omega
    rw [e] at hu ⊢
    rw [v2] at hu
    rw [← hu]; exact c2
theorem opns_of_row {w : World} {base n : Nat} {v : Value} {T : TypeId} {l : List Opn} (h : w.ownsRow base T 3 v n (opnV l)) : ∃ a c, v = .slice a l.length c ∧ Opns w a l := by
  have hn : l.length = n := by have := h.1; rw [opnV_length] at this; omega
  rcases h.2 with ⟨rfl, h0⟩ | ⟨g, cap, cur, rfl, hb, hg, h1, h2, h3, h4⟩
  · exact ⟨none, 0, by rw [hn, h0], fun j hj => by omega⟩
  · refine ⟨_, cap, by rw [hn], fun j hj => ⟨g, 0, rfl, (Array.getElem?_eq_some_iff.1 hg).1, ?_⟩⟩
    obtain ⟨v0, v1, v2⟩ := opnV_at l j hj
    have c0 := h.cells (g := g) rfl _ _ v0
    have c1 := h.cells (g := g) rfl _ _ v1
    have c2 := h.cells (g := g) rfl _ _ v2
    rw [add_at] at c0 c1 c2
    exact ⟨c0, by simpa [Nat.add_assoc] using c1, by simpa [Nat.add_assoc] using c2⟩
theorem opns_new1 (w : World) (s : Opn) (T : TypeId) : Opns (w.alloc (.cells #[.int .i64 s.p, .int .i64 s.m, .int .i64 s.l] T)) (some ⟨w.heap.size, 0, none⟩) [s] := by
  intro j hj
  refine ⟨_, _, rfl, by simp, ?_⟩
  match j, hj with
  | 0, _ => simp
theorem opnV_set0 : ∀ (l : List Opn) (k : Nat) (hk : k < l.length) (n : Int), (opnV l).set (k * 3) (.int .i64 n) = opnV (l.set k { l[k] with p := n })
  | s :: l, 0, _, n => by simp [opnV]
  | s :: l, k + 1, hk, n => by
    have h := opnV_set0 l k (by simpa using hk) n
    have e : ∀ (t : Opn) (m : List Opn), opnV (t :: m) = [.int .i64 t.p, .int .i64 t.m, .int .i64 t.l] ++ opnV m := fun t m => by simp [opnV]
    rw [List.set_cons_succ, e, e, List.set_append_right _ _ (by simp; omega), show (k + 1) * 3 - [Value.int .i64 s.p, .int .i64 s.m, .int .i64 s.l].length = k * 3 by simp; omega, h]
    rfl
theorem opnV_set1 : ∀ (l : List Opn) (k : Nat) (hk : k < l.length) (n : Int), (opnV l).set (k * 3 + 1) (.int .i64 n) = opnV (l.set k { l[k] with m := n })
  | s :: l, 0, _, n => by simp [opnV]
  | s :: l, k + 1, hk, n => by
    have h := opnV_set1 l k (by simpa using hk) n
    have e : ∀ (t : Opn) (m : List Opn), opnV (t :: m) = [.int .i64 t.p, .int .i64 t.m, .int .i64 t.l] ++ opnV m := fun t m => by simp [opnV]
    rw [List.set_cons_succ, e, e, List.set_append_right _ _ (by simp; omega), show (k + 1) * 3 + 1 - [Value.int .i64 s.p, .int .i64 s.m, .int .i64 s.l].length = k * 3 + 1 by simp; omega, h]
    rfl
theorem opnV_set2 : ∀ (l : List Opn) (k : Nat) (hk : k < l.length) (n : Int), (opnV l).set (k * 3 + 2) (.int .i64 n) = opnV (l.set k { l[k] with l := n })
  | s :: l, 0, _, n => by simp [opnV]
  | s :: l, k + 1, hk, n => by
    have h := opnV_set2 l k (by simpa using hk) n
    have e : ∀ (t : Opn) (m : List Opn), opnV (t :: m) = [.int .i64 t.p, .int .i64 t.m, .int .i64 t.l] ++ opnV m := fun t m => by simp [opnV]
    rw [List.set_cons_succ, e, e, List.set_append_right _ _ (by simp; omega), show (k + 1) * 3 + 2 - [Value.int .i64 s.p, .int .i64 s.m, .int .i64 s.l].length = k * 3 + 2 by simp; omega, h]
    rfl
section
variable {H : Type} {enc : TypeId × Value → H} {P : Program} {w : World} {base : Nat} {spare : Nat → Bool} {held : Bool}
theorem read_opns {t e ti : TypeId} {f0 f1 f2 : Field} {fuel : Nat} {a : Option Addr} {len cap : Nat} {x : DataW H × List MemPlace} (ht : P.underlying t = some (.slice e)) (he : P.underlying e = some (.struct #[f0, f1, f2]))
    (hone : oneCellFields P #[f0, f1, f2] = true) (hC : P.cellsOf e = 3) (hi : P.underlying ti = some (.int .i64)) (h0 : f0.type = ti) (h1 : f1.type = ti) (h2 : f2.type = ti)
    (h : DataW.trod enc P w base spare held fuel t [.slice a len cap] = some x) : ∃ l : List Opn, l.length = len ∧ Opns w a l := by
  rcases open_slice_fields ht he hone hC h with ⟨hcs, _⟩ | ⟨ad, l', c', m, D, Pl, hcs, _, hl, _, hm, _, hf⟩
  · simp at hcs
    obtain ⟨rfl, rfl, rfl⟩ := hcs
    exact ⟨[], rfl, fun j hj => by simp at hj⟩
  · simp at hcs
    obtain ⟨rfl, rfl, rfl⟩ := hcs
    have hlm : len ≤ m := by rw [hm]; split <;> omega
    have each : ∀ i, i < len → ∃ s : Opn, w.cell? (ad.add (i * 3 + 0)) = some (.int .i64 s.p) ∧ w.cell? (ad.add (i * 3 + 1)) = some (.int .i64 s.m) ∧ w.cell? (ad.add (i * 3 + 2)) = some (.int .i64 s.l) := by
      intro i hi'
      obtain ⟨ys, n, _, _, _, hg⟩ := hf i (by omega)
      obtain ⟨v0, y0, c0, _, t0⟩ := hg 0 f0 rfl
      obtain ⟨v1, y1, c1, _, t1⟩ := hg 1 f1 rfl
      obtain ⟨v2, y2, c2, _, t2⟩ := hg 2 f2 rfl
      rw [h0] at t0
      obtain ⟨n0, e0, _⟩ := DataW.trod_int hi t0
      rw [h1] at t1
      obtain ⟨n1, e1, _⟩ := DataW.trod_int hi t1
      rw [h2] at t2
      obtain ⟨n2, e2, _⟩ := DataW.trod_int hi t2
      simp at e0 e1 e2
      subst e0 e1 e2
      exact ⟨⟨n0, n1, n2⟩, c0, c1, c2⟩
    let S : Nat → Opn := fun i => if hi' : i < len then Classical.choose (each i hi') else default
    refine ⟨(List.range len).map S, by simp, fun j hj => ?_⟩
    have hj' : j < len := by simpa using hj
    have hS : S j = Classical.choose (each j hj') := by simp [S, hj']
    obtain ⟨k0, k1, k2⟩ := Classical.choose_spec (each j hj')
    rw [← hS] at k0 k1 k2
    obtain ⟨sz, z0, _⟩ := each 0 (by omega)
    have z1 : w.cell? (ad.add 0) = some (.int .i64 sz.p) := by simpa using z0
    obtain ⟨b, off, rfl, hb⟩ := spot_none z1
    rw [add_at] at k0 k1 k2
    refine ⟨b, off, rfl, hb, ?_⟩
    simp only [List.getElem_map, List.getElem_range]
    exact ⟨by simpa using k0, by simpa [Nat.add_assoc] using k1, by simpa [Nat.add_assoc] using k2⟩
end

end Go.Proofs.Ytgnjaapjaglleaa

namespace Go.Proofs.Ytgnjaapjaglleaa
open Go.RowKit

def pairsM (M : List Move) : List (Int × Int) := M.flatMap fun x => List.replicate x.m.toNat (x.fr, x.to)
theorem pairsM_app (M N : List Move) : pairsM (M ++ N) = pairsM M ++ pairsM N := by simp [pairsM]
theorem pairsM_one (p q m : Int) : pairsM [⟨p, q, m⟩] = List.replicate m.toNat (p, q) := by simp [pairsM]
def addM (out : List Move) (q : Int × Int) : List Move :=
  match out.getLast? with
  | some x => if x.fr = q.1 ∧ x.to = q.2 then out.dropLast ++ [{ x with m := x.m + 1 }] else out ++ [⟨q.1, q.2, 1⟩]
  | none => [⟨q.1, q.2, 1⟩]
/-- equal pairs that follow each other, put together -/
def runs (Q : List (Int × Int)) : List Move := Q.foldl addM []
theorem addM_snoc (out : List Move) (p q m : Int) : addM (out ++ [⟨p, q, m⟩]) (p, q) = out ++ [⟨p, q, m + 1⟩] := by
  unfold addM
  simp [List.getLast?_append]
theorem addM_new {out : List Move} {p q : Int} (h : ∀ x, out.getLast? = some x → x.fr ≠ p ∨ x.to ≠ q) : addM out (p, q) = out ++ [⟨p, q, 1⟩] := by
  unfold addM
  cases hx : out.getLast? with
  | none => simp only; rw [List.getLast?_eq_none_iff] at hx; subst hx; rfl
  | some x =>
    simp only
    rw [if_neg]
    rintro ⟨h1, h2⟩
    rcases h x hx with h3 | h3
    · exact h3 h1
    · exact h3 h2
theorem foldM_replicate {out : List Move} {p q : Int} (h : ∀ x, out.getLast? = some x → x.fr ≠ p ∨ x.to ≠ q) : ∀ n : Nat, (List.replicate (n + 1) (p, q)).foldl addM out = out ++ [⟨p, q, ((n + 1 : Nat) : Int)⟩]
  | 0 => by simp [addM_new h]
  | n + 1 => by
    rw [List.replicate_succ', List.foldl_append, foldM_replicate h n]
    simp only [List.foldl_cons, List.foldl_nil]
    rw [addM_snoc]
    congr 1
theorem runs_snoc {M : List Move} {p q n : Int} (hr : runs (pairsM M) = M) (h : ∀ x, M.getLast? = some x → x.fr ≠ p ∨ x.to ≠ q) (hn : 1 ≤ n) : runs (pairsM (M ++ [⟨p, q, n⟩])) = M ++ [⟨p, q, n⟩] := by
  obtain ⟨k, hk⟩ : ∃ k, n.toNat = k + 1 := ⟨n.toNat - 1, by omega⟩
  unfold runs at hr ⊢
  rw [pairsM_app, List.foldl_append, hr, pairsM_one, hk, foldM_replicate h]
  congr 3
  omega
/-- the sum of the prices of pairs -/
def sumP (Q : List (Int × Int)) (k : Int) : Int := (Q.map fun q => priceV q.1 q.2 k).sum
theorem sumP_app (Q R : List (Int × Int)) (k : Int) : sumP (Q ++ R) k = sumP Q k + sumP R k := by simp [sumP]
theorem sumP_rep (p q k : Int) : ∀ n : Nat, sumP (List.replicate n (p, q)) k = n * priceV p q k
  | 0 => by simp [sumP]
  | n + 1 => by
    have ih := sumP_rep p q k n
    rw [List.replicate_succ]
    unfold sumP at ih ⊢
    rw [List.map_cons, List.sum_cons, ih]
    simp only
    rw [show ((n + 1 : Nat) : Int) = (n : Int) + 1 by omega, Int.add_mul, Int.one_mul]
    omega
theorem sumP_zip : ∀ (u v : List Int) (k : Int), u.length = v.length → sumP (u.zip v) k = apartTo u v k u.length
  | [], [], k, _ => by simp [sumP, apartTo]
  | a :: u, b :: v, k, h => by
    have ih := sumP_zip u v k (by simpa using h)
    rw [apartTo_sum] at ih ⊢
    have e : ∀ n, sumR (fun i => priceV (gi (a :: u) i) (gi (b :: v) i) k) (n + 1) = priceV a b k + sumR (fun i => priceV (gi u i) (gi v i) k) n := fun n => by
      induction n with
      | zero => simp [sumR, gi]
      | succ n ihn =>
        have e1 : sumR (fun i => priceV (gi (a :: u) i) (gi (b :: v) i) k) (n + 1 + 1) = sumR (fun i => priceV (gi (a :: u) i) (gi (b :: v) i) k) (n + 1) + priceV (gi (a :: u) (n + 1)) (gi (b :: v) (n + 1)) k := rfl
        have e2 : gi (a :: u) (n + 1) = gi u n := by simp [gi]
        have e3 : gi (b :: v) (n + 1) = gi v n := by simp [gi]
        rw [e1, ihn, e2, e3]
        simp only [sumR]
        omega
    rw [List.length_cons, e, ← ih]
    simp [sumP]
def mvK (M : List Move) (i : Nat) : Move := M[i]?.getD ⟨0, 0, 0⟩
theorem mvK_at {M : List Move} {i : Nat} (h : i < M.length) : mvK M i = M[i] := by simp [mvK, h]
/-- the cost of the first n moves -/
def costTo (M : List Move) (k : Int) (n : Nat) : Int := sumR (fun i => (mvK M i).m * priceV (mvK M i).fr (mvK M i).to k) n
theorem cost_pairs {M : List Move} (hm : ∀ i, (hi : i < M.length) → 0 ≤ M[i].m) (k : Int) : ∀ n, n ≤ M.length → costTo M k n = sumP (pairsM (M.take n)) k
  | 0, _ => by simp [costTo, sumR, sumP, pairsM]
  | n + 1, hn => by
    have ih := cost_pairs hm k n (by omega)
    have h1 := hm n (by omega)
    rw [List.take_succ_eq_append_getElem (by omega), pairsM_app, sumP_app, ← ih]
    have e : pairsM [M[n]] = List.replicate M[n].m.toNat (M[n].fr, M[n].to) := by simp [pairsM]
    rw [e, sumP_rep]
    unfold costTo
    simp only [sumR]
    rw [mvK_at (by omega)]
    congr 2
    omega
theorem cost_all {M : List Move} (hm : ∀ i, (hi : i < M.length) → 0 ≤ M[i].m) (k : Int) : costTo M k M.length = sumP (pairsM M) k := by
  rw [cost_pairs hm k _ (Nat.le_refl _), List.take_length]

/-- what is left of a load's units, if the atom i has still r -/
def remU (l : List Atom) (i : Nat) (r : Int) : List Int := List.replicate (if i < l.length then r.toNat else 0) (atK l i).p ++ unitsL (l.drop (i + 1))
theorem remU_start {l : List Atom} : remU l 0 (atK l 0).m = unitsL l := by
  cases l with
  | nil => simp [remU, unitsL]
  | cons x l => simp [remU, unitsL, atK]
theorem remU_end {l : List Atom} {i : Nat} (h : l.length ≤ i) (r : Int) : remU l i r = [] := by
  unfold remU; rw [if_neg (by omega), List.drop_eq_nil_of_le (by omega)]; simp [unitsL]
theorem remU_next {l : List Atom} {i : Nat} (h : i < l.length) : remU l (i + 1) (atK l (i + 1)).m = unitsL (l.drop (i + 1)) := by
  by_cases h2 : i + 1 < l.length
  · unfold remU
    rw [if_pos h2, List.drop_eq_getElem_cons h2, atK_at h2]
    simp only [unitsL, List.flatMap_cons]
  · rw [remU_end (by omega), List.drop_eq_nil_of_le (by omega)]; simp [unitsL]
theorem remU_cut {l : List Atom} {i : Nat} (h : i < l.length) {r n : Int} (hn : 0 ≤ n) (hr : n ≤ r) : remU l i r = List.replicate n.toNat l[i].p ++ (if r = n then remU l (i + 1) (atK l (i + 1)).m else remU l i (r - n)) := by
  by_cases e : r = n
  · rw [if_pos e, remU_next h]
    unfold remU
    rw [if_pos h, atK_at h, e]
  · rw [if_neg e]
    unfold remU
    rw [if_pos h, if_pos h, atK_at h, ← List.append_assoc, List.replicate_append_replicate]
    congr 2
    omega
theorem remU_len_pos {l : List Atom} {i : Nat} (h : i < l.length) {r : Int} (hr : 1 ≤ r) : 0 < (remU l i r).length := by
  unfold remU; rw [if_pos h, List.length_append, List.length_replicate]; omega
/-- the state of the ordered moves: the atoms i and j have ra and rb left -/
structure OrdSt (a b : List Atom) (i : Nat) (ra : Int) (j : Nat) (rb : Int) (M : List Move) : Prop where
  ia : i ≤ a.length
  jb : j ≤ b.length
  rem : pairsM M ++ (remU a i ra).zip (remU b j rb) = (unitsL a).zip (unitsL b)
  len : (remU a i ra).length = (remU b j rb).length
  run : runs (pairsM M) = M
  last : ∀ x, M.getLast? = some x → i < a.length → j < b.length → x.fr ≠ a[i]!.p ∨ x.to ≠ b[j]!.p
  ra1 : i < a.length → 1 ≤ ra ∧ ra ≤ 1000
  rb1 : j < b.length → 1 ≤ rb ∧ rb ≤ 1000
  cnt : M.length ≤ i + j
  mass : ∀ x ∈ M, (1 ≤ x.m ∧ x.m ≤ 1000) ∧ (-60000 ≤ x.fr ∧ x.fr ≤ 60000) ∧ (-60000 ≤ x.to ∧ x.to ≤ 60000)
theorem ordSt_start {a b : List Atom} (ha : Fine a) (hb : Fine b) (ht : (unitsL a).length = (unitsL b).length) : OrdSt a b 0 (atK a 0).m 0 (atK b 0).m [] where
  ia := Nat.zero_le _
  jb := Nat.zero_le _
  rem := by rw [remU_start, remU_start]; simp [pairsM]
  len := by rw [remU_start, remU_start]; exact ht
  run := rfl
  last := fun x hx => by simp at hx
  ra1 := fun h => by rw [atK_at h]; exact (ha.2 0 h).2
  rb1 := fun h => by rw [atK_at h]; exact (hb.2 0 h).2
  cnt := by simp
  mass := fun x hx => by simp at hx
theorem bang_at {α : Type} [Inhabited α] {l : List α} {i : Nat} (h : i < l.length) : l[i]! = l[i] := by simp [h]
theorem ordSt_step {a b : List Atom} {i : Nat} {ra : Int} {j : Nat} {rb : Int} {M : List Move} (ha : Fine a) (hb : Fine b) (pa : a.Pairwise (fun x y => x.p < y.p)) (pb : b.Pairwise (fun x y => x.p < y.p)) (h : OrdSt a b i ra j rb M) (hi : i < a.length) (hj : j < b.length) {n : Int} (hn : n = min ra rb) :
    OrdSt a b (if ra = n then i + 1 else i) (if ra = n then (atK a (i + 1)).m else ra - n) (if rb = n then j + 1 else j) (if rb = n then (atK b (j + 1)).m else rb - n) (M ++ [⟨a[i].p, b[j].p, n⟩]) := by
  have hra := h.ra1 hi
  have hrb := h.rb1 hj
  have hn1 : 1 ≤ n := by omega
  have e1 := remU_cut hi (r := ra) (n := n) (by omega) (by omega)
  have e2 := remU_cut hj (r := rb) (n := n) (by omega) (by omega)
  have r1 : (if ra = n then remU a (i + 1) (atK a (i + 1)).m else remU a i (ra - n)) = remU a (if ra = n then i + 1 else i) (if ra = n then (atK a (i + 1)).m else ra - n) := by split <;> rfl
  have r2 : (if rb = n then remU b (j + 1) (atK b (j + 1)).m else remU b j (rb - n)) = remU b (if rb = n then j + 1 else j) (if rb = n then (atK b (j + 1)).m else rb - n) := by split <;> rfl
  rw [r1] at e1
  rw [r2] at e2
  have hlast := fun x hx => by have := h.last x hx hi hj; rwa [bang_at hi, bang_at hj] at this
  refine ⟨by split <;> omega, by split <;> omega, ?_, ?_, runs_snoc h.run hlast hn1, ?_, ?_, ?_, ?_, ?_⟩
  · rw [← h.rem, e1, e2, pairsM_app, pairsM_one, List.zip_append (by simp), List.append_assoc]
    congr 2
    rw [List.zip_replicate']
  · have := h.len
    rw [e1, e2] at this
    simpa using this
  · intro x hx h1 h2
    rw [List.getLast?_append] at hx
    simp at hx
    subst hx
    rw [bang_at h1, bang_at h2]
    rw [List.pairwise_iff_getElem] at pa pb
    by_cases c1 : ra = n
    · left
      simp only [if_pos c1] at h1 ⊢
      have := pa i (i + 1) hi h1 (by omega)
      omega
    · right
      have c2 : rb = n := by omega
      simp only [if_pos c2] at h2 ⊢
      have := pb j (j + 1) hj h2 (by omega)
      omega
  · intro h1
    by_cases c1 : ra = n
    · simp only [if_pos c1] at h1 ⊢
      rw [atK_at h1]; exact (ha.2 _ h1).2
    · simp only [if_neg c1] at h1 ⊢
      omega
  · intro h1
    by_cases c1 : rb = n
    · simp only [if_pos c1] at h1 ⊢
      rw [atK_at h1]; exact (hb.2 _ h1).2
    · simp only [if_neg c1] at h1 ⊢
      omega
  · have := h.cnt
    rw [List.length_append]
    simp only [List.length_cons, List.length_nil]
    by_cases c1 : ra = n
    · rw [if_pos c1]; split <;> omega
    · rw [if_neg c1, if_pos (by omega)]; omega
  · intro x hx
    rcases List.mem_append.1 hx with h1 | h1
    · exact h.mass x h1
    · simp at h1
      subst h1
      exact ⟨by simp only; omega, (ha.2 i hi).1, (hb.2 j hj).1⟩
/-- the ordered moves from a load to another one -/
def ordL (a b : List Atom) : List Move := runs ((unitsL a).zip (unitsL b))
theorem ordSt_end {a b : List Atom} {i : Nat} {ra : Int} {j : Nat} {rb : Int} {M : List Move} (h : OrdSt a b i ra j rb M) (he : a.length ≤ i ∨ b.length ≤ j) : pairsM M = (unitsL a).zip (unitsL b) ∧ M = ordL a b := by
  have hr := h.rem
  have e : (remU a i ra).zip (remU b j rb) = [] := by
    rcases he with he | he
    · rw [remU_end he]; simp
    · rw [remU_end he]; simp
  rw [e, List.append_nil] at hr
  refine ⟨hr, ?_⟩
  unfold ordL
  rw [← hr, h.run]
theorem ordSt_runs {a b : List Atom} (ha : Fine a) (hb : Fine b) (pa : a.Pairwise (fun x y => x.p < y.p)) (pb : b.Pairwise (fun x y => x.p < y.p)) : ∀ (d : Nat) {i j : Nat} {ra rb : Int} {M : List Move}, a.length - i + (b.length - j) ≤ d → OrdSt a b i ra j rb M →
    ∃ i' j' ra' rb' M', OrdSt a b i' ra' j' rb' M' ∧ (a.length ≤ i' ∨ b.length ≤ j')
  | 0, i, j, ra, rb, M, hd, h => ⟨i, j, ra, rb, M, h, by omega⟩
  | d + 1, i, j, ra, rb, M, hd, h => by
    by_cases hi : i < a.length
    · by_cases hj : j < b.length
      · have hs := ordSt_step ha hb pa pb h hi hj (n := min ra rb) rfl
        refine ordSt_runs ha hb pa pb d ?_ hs
        by_cases c : ra = min ra rb
        · rw [if_pos c]; split <;> omega
        · rw [if_neg c, if_pos (by omega)]; omega
      · exact ⟨i, j, ra, rb, M, h, .inr (by omega)⟩
    · exact ⟨i, j, ra, rb, M, h, .inl (by omega)⟩
/-- what is known of the ordered moves -/
theorem ordL_facts {a b : List Atom} (ha : Fine a) (hb : Fine b) (pa : a.Pairwise (fun x y => x.p < y.p)) (pb : b.Pairwise (fun x y => x.p < y.p)) (ht : (unitsL a).length = (unitsL b).length) :
    pairsM (ordL a b) = (unitsL a).zip (unitsL b) ∧ (ordL a b).length ≤ a.length + b.length ∧ ∀ x ∈ ordL a b, (1 ≤ x.m ∧ x.m ≤ 1000) ∧ (-60000 ≤ x.fr ∧ x.fr ≤ 60000) ∧ (-60000 ≤ x.to ∧ x.to ≤ 60000) := by
  obtain ⟨i, j, ra, rb, M, h, he⟩ := ordSt_runs ha hb pa pb _ (Nat.le_refl _) (ordSt_start ha hb ht)
  obtain ⟨h1, rfl⟩ := ordSt_end h he
  have := h.ia
  have := h.jb
  have := h.cnt
  exact ⟨h1, by omega, h.mass⟩
/-- the opened atoms: place, mass, what is left -/
def opens (a : List Atom) (i : Nat) (r : Int) : List Opn := (List.range a.length).map fun k => ⟨(atK a k).p, (atK a k).m, if k < i then 0 else if k = i then r else (atK a k).m⟩
theorem opens_length (a : List Atom) (i : Nat) (r : Int) : (opens a i r).length = a.length := by simp [opens]
theorem opens_at {a : List Atom} {i : Nat} {r : Int} (h : i < a.length) : (opens a i r)[i]'(by rw [opens_length]; exact h) = ⟨a[i].p, a[i].m, r⟩ := by
  simp only [opens, List.getElem_map, List.getElem_range]
  rw [atK_at h, if_neg (by omega)]; simp
theorem opens_set {a : List Atom} {i : Nat} {r r' : Int} (h : i < a.length) : (opens a i r).set i ⟨a[i].p, a[i].m, r'⟩ = opens a i r' := by
  refine List.ext_getElem (by simp [opens_length]) fun k h1 h2 => ?_
  rw [List.getElem_set]
  by_cases e : i = k
  · subst e
    rw [if_pos rfl, opens_at h]
  · rw [if_neg e]
    simp only [opens, List.getElem_map, List.getElem_range]
    by_cases c : k < i
    · rw [if_pos c, if_pos c]
    · rw [if_neg c, if_neg c, if_neg (by omega), if_neg (by omega)]
theorem opens_next (a : List Atom) (i : Nat) : opens a i 0 = opens a (i + 1) (atK a (i + 1)).m := by
  unfold opens
  refine List.map_congr_left fun k _ => ?_
  by_cases c : k < i
  · rw [if_pos c, if_pos (by omega)]
  · by_cases e : k = i
    · rw [if_neg c, if_pos e, if_pos (by omega)]
    · rw [if_neg c, if_neg e, if_neg (by omega)]
      by_cases e2 : k = i + 1
      · rw [if_pos e2, e2]
      · rw [if_neg e2]
theorem opens_start (a : List Atom) : opnV (opens a 0 (atK a 0).m) = openV a := by
  unfold opnV openV opens
  rw [List.flatMap_map]
  have : a = (List.range a.length).map (atK a) := by
    refine List.ext_getElem (by simp) fun k h1 h2 => ?_
    simp only [List.getElem_map, List.getElem_range]
    rw [atK_at h1]
  conv => rhs; rw [this]
  rw [List.flatMap_map]
  congr 1
  funext k
  simp only [show ¬ k < 0 by omega, if_false]
  split
  · next e => rw [e]
  · rfl
end Go.Proofs.Ytgnjaapjaglleaa

namespace Go.Proofs.Ytgnjaapjaglleaa

/-- how many pairs have their first number up to s, and their second one up to t -/
def hits (Q : List (Int × Int)) (s t : Int) : Nat := Q.countP fun q => decide (q.1 ≤ s) && decide (q.2 ≤ t)
def Crossed (Q : List (Int × Int)) : Prop := ∃ q ∈ Q, ∃ r ∈ Q, q.1 < r.1 ∧ r.2 < q.2
theorem hits_le (Q : List (Int × Int)) (s t : Int) : hits Q s t ≤ (Q.map Prod.fst).countP (fun x => decide (x ≤ s)) ∧ hits Q s t ≤ (Q.map Prod.snd).countP (fun x => decide (x ≤ t)) := by
  unfold hits
  rw [List.countP_map, List.countP_map]
  exact ⟨List.countP_mono_left fun x _ h => by simp at h ⊢; exact h.1, List.countP_mono_left fun x _ h => by simp at h ⊢; exact h.2⟩
theorem hits_min {Q : List (Int × Int)} (h : ¬ Crossed Q) (s t : Int) : hits Q s t = min ((Q.map Prod.fst).countP (fun x => decide (x ≤ s))) ((Q.map Prod.snd).countP (fun x => decide (x ≤ t))) := by
  obtain ⟨h1, h2⟩ := hits_le Q s t
  by_cases hc : ∃ q ∈ Q, q.1 ≤ s ∧ t < q.2
  · obtain ⟨q, hq, q1, q2⟩ := hc
    have : hits Q s t = (Q.map Prod.snd).countP (fun x => decide (x ≤ t)) := by
      unfold hits
      rw [List.countP_map]
      refine List.countP_congr fun r hr => ?_
      simp only [Bool.and_eq_true, decide_eq_true_eq, Function.comp]
      refine ⟨fun a => a.2, fun a => ⟨?_, a⟩⟩
      by_cases h3 : r.1 ≤ s
      · exact h3
      · exact absurd ⟨q, hq, r, hr, by omega, by omega⟩ h
    omega
  · have : hits Q s t = (Q.map Prod.fst).countP (fun x => decide (x ≤ s)) := by
      unfold hits
      rw [List.countP_map]
      refine List.countP_congr fun r hr => ?_
      simp only [Bool.and_eq_true, decide_eq_true_eq, Function.comp]
      refine ⟨fun a => a.1, fun a => ⟨a, ?_⟩⟩
      by_cases h3 : r.2 ≤ t
      · exact h3
      · exact absurd ⟨r, hr, a, by omega⟩ hc
    omega
theorem countP_lt {α : Type} {p q : α → Bool} : ∀ {l : List α}, (∀ x ∈ l, p x = true → q x = true) → (∃ x ∈ l, p x = false ∧ q x = true) → l.countP p < l.countP q
  | [], _, h => by obtain ⟨x, hx, _⟩ := h; simp at hx
  | a :: l, h, hx => by
    have hm : l.countP p ≤ l.countP q := List.countP_mono_left fun x hx h2 => h x (List.mem_cons_of_mem _ hx) h2
    have ha := h a List.mem_cons_self
    obtain ⟨x, hx, h1, h2⟩ := hx
    rcases List.mem_cons.1 hx with rfl | hx
    · rw [List.countP_cons_of_neg (by simp [h1]), List.countP_cons_of_pos h2]; omega
    · have ih := countP_lt (l := l) (fun y hy => h y (List.mem_cons_of_mem _ hy)) ⟨x, hx, h1, h2⟩
      rw [List.countP_cons, List.countP_cons]
      by_cases c : p a = true
      · rw [if_pos c, if_pos (ha c)]; omega
      · rw [if_neg c]; split <;> omega
theorem hits_crossed {Q : List (Int × Int)} (h : Crossed Q) : ∃ q ∈ Q, ∃ r ∈ Q, hits Q q.1 r.2 < min ((Q.map Prod.fst).countP (fun x => decide (x ≤ q.1))) ((Q.map Prod.snd).countP (fun x => decide (x ≤ r.2))) ∧ q.1 < r.1 ∧ r.2 < q.2 := by
  obtain ⟨q, hq, r, hr, h1, h2⟩ := h
  refine ⟨q, hq, r, hr, ?_, h1, h2⟩
  have a1 : hits Q q.1 r.2 < (Q.map Prod.fst).countP (fun x => decide (x ≤ q.1)) := by
    unfold hits; rw [List.countP_map]
    exact countP_lt (fun x _ hx => by simp at hx ⊢; exact hx.1) ⟨q, hq, by simp; omega, by simp⟩
  have a2 : hits Q q.1 r.2 < (Q.map Prod.snd).countP (fun x => decide (x ≤ r.2)) := by
    unfold hits; rw [List.countP_map]
    exact countP_lt (fun x _ hx => by simp at hx ⊢; exact hx.2) ⟨r, hr, by simp; omega, by simp⟩
  omega
theorem zip_uncrossed {u v : List Int} (hu : u.Pairwise (· ≤ ·)) (hv : v.Pairwise (· ≤ ·)) : ¬ Crossed (u.zip v) := by
  rintro ⟨q, hq, r, hr, h1, h2⟩
  obtain ⟨i, hi, rfl⟩ := List.getElem_of_mem hq
  obtain ⟨j, hj, rfl⟩ := List.getElem_of_mem hr
  simp only [List.getElem_zip] at h1 h2
  simp only [List.length_zip] at hi hj
  rw [List.pairwise_iff_getElem] at hu hv
  rcases Nat.lt_trichotomy i j with h | h | h
  · have := hv i j (by omega) (by omega) h; omega
  · subst h; omega
  · have := hu j i (by omega) (by omega) h; omega

/-! sums over thresholds -/
def thr (i : Nat) : Int := (i : Int) - 1000
def ind (x : Int) (i : Nat) : Int := indI (decide (x ≤ thr i))
theorem sumR_zero' : ∀ n, sumR (fun _ => (0 : Int)) n = 0
  | 0 => rfl
  | n + 1 => by simp [sumR, sumR_zero' n]
theorem sumR_cmul (c : Int) (f : Nat → Int) : ∀ k, sumR (fun i => c * f i) k = c * sumR f k
  | 0 => by simp [sumR]
  | k + 1 => by simp only [sumR]; rw [sumR_cmul c f k, Int.mul_add]
theorem sumR_mono {f g : Nat → Int} {n : Nat} (h : ∀ i, i < n → f i ≤ g i) : ∀ k, k ≤ n → sumR f k ≤ sumR g k
  | 0, _ => by simp [sumR]
  | k + 1, hk => by have := sumR_mono h k (by omega); have := h k (by omega); simp only [sumR]; omega
theorem sumR_lt {f g : Nat → Int} {n : Nat} (h : ∀ i, i < n → f i ≤ g i) {j : Nat} (hj : f j < g j) : ∀ k, k ≤ n → j < k → sumR f k < sumR g k
  | 0, _, h0 => by omega
  | k + 1, hk, h0 => by
    simp only [sumR]
    by_cases e : j = k
    · subst e
      have := sumR_mono h j (by omega); omega
    · have := sumR_lt h hj k (by omega) (by omega); have := h k (by omega); omega
theorem ind_line {x : Int} (hx : -1000 ≤ x ∧ x ≤ 1000) : ∀ j : Nat, j ≤ 2000 → sumR (ind x) j = if (j : Int) ≤ x + 1000 then 0 else (j : Int) - (x + 1000)
  | 0, _ => by simp only [sumR]; rw [if_pos (by omega)]
  | j + 1, hj => by
    have ih := ind_line hx j (by omega)
    simp only [sumR]
    rw [ih]
    unfold ind thr
    by_cases h : x ≤ (j : Int) - 1000
    · rw [decide_eq_true h, show indI true = 1 from rfl]; split <;> split <;> omega
    · rw [decide_eq_false h, show indI false = 0 from rfl]; split <;> split <;> omega
theorem ind_sum {x : Int} (hx : -1000 ≤ x ∧ x ≤ 1000) : sumR (ind x) 2000 = 1000 - x := by
  rw [ind_line hx 2000 (Nat.le_refl _)]; split <;> omega
theorem ind_prod {x y : Int} (hx : -1000 ≤ x ∧ x ≤ 1000) (hy : -1000 ≤ y ∧ y ≤ 1000) : sumR (fun i => sumR (fun j => ind x i * ind y j) 2000) 2000 = (1000 - x) * (1000 - y) := by
  have e : ∀ i, sumR (fun j => ind x i * ind y j) 2000 = (1000 - y) * ind x i := fun i => by rw [sumR_cmul, ind_sum hy, Int.mul_comm]
  rw [show (fun i => sumR (fun j => ind x i * ind y j) 2000) = fun i => (1000 - y) * ind x i from funext e, sumR_cmul, ind_sum hx, Int.mul_comm]
theorem indI_mul (a b : Bool) : indI a * indI b = indI (a && b) := by cases a <;> cases b <;> rfl
theorem hits_cons (q : Int × Int) (Q : List (Int × Int)) (i j : Nat) : (hits (q :: Q) (thr i) (thr j) : Int) = ind q.1 i * ind q.2 j + hits Q (thr i) (thr j) := by
  unfold hits ind
  rw [List.countP_cons, indI_mul]
  unfold indI
  split <;> simp_all <;> omega
theorem cnt_cons (x : Int) (L : List Int) (i : Nat) : (((x :: L).countP fun y => decide (y ≤ thr i) : Nat) : Int) = ind x i + (L.countP fun y => decide (y ≤ thr i) : Nat) := by
  unfold ind
  rw [List.countP_cons]
  unfold indI
  split <;> simp_all <;> omega
def InR (Q : List (Int × Int)) : Prop := ∀ q ∈ Q, (-1000 ≤ q.1 ∧ q.1 ≤ 1000) ∧ (-1000 ≤ q.2 ∧ q.2 ≤ 1000)
theorem sumR_add3 (f g h : Nat → Int) (n : Nat) : sumR (fun i => f i + g i - 2 * h i) n = sumR f n + sumR g n - 2 * sumR h n := by
  induction n with
  | zero => rfl
  | succ n ih => simp only [sumR]; rw [ih]; omega
/-- the products, told by the hits -/
theorem prod_hits : ∀ {Q : List (Int × Int)}, InR Q → (Q.map fun q => (1000 - q.1) * (1000 - q.2)).sum = sumR (fun i => sumR (fun j => (hits Q (thr i) (thr j) : Int)) 2000) 2000
  | [], _ => by simp [hits, sumR_zero']
  | q :: Q, h => by
    have ih := prod_hits (Q := Q) fun r hr => h r (List.mem_cons_of_mem _ hr)
    have hq := h q List.mem_cons_self
    rw [List.map_cons, List.sum_cons, ih, ← ind_prod hq.1 hq.2, ← sumR_add]
    refine sumR_congr (n := 2000) (fun i _ => ?_) _ (Nat.le_refl _)
    rw [← sumR_add]
    exact sumR_congr (n := 2000) (fun j _ => (hits_cons q Q i j).symm) _ (Nat.le_refl _)
theorem dist_ind {x y : Int} (hx : -1000 ≤ x ∧ x ≤ 1000) (hy : -1000 ≤ y ∧ y ≤ 1000) : distI x y = sumR (fun i => ind x i + ind y i - 2 * (ind x i * ind y i)) 2000 := by
  rw [← gap_sum hx hy]
  refine sumR_congr (n := 2000) (fun i _ => ?_) _ (Nat.le_refl _)
  unfold ind thr
  generalize decide (x ≤ (i : Int) - 1000) = a
  generalize decide (y ≤ (i : Int) - 1000) = b
  cases a <;> cases b <;> rfl
/-- the distances, told by the hits -/
theorem dist_hits : ∀ {Q : List (Int × Int)}, InR Q → sumP Q 1 = sumR (fun i => ((Q.map Prod.fst).countP (fun x => decide (x ≤ thr i)) : Nat) + ((Q.map Prod.snd).countP (fun x => decide (x ≤ thr i)) : Nat) - 2 * (hits Q (thr i) (thr i) : Int)) 2000
  | [], _ => by simp [hits, sumP, sumR_zero']
  | q :: Q, h => by
    have ih := dist_hits (Q := Q) fun r hr => h r (List.mem_cons_of_mem _ hr)
    have hq := h q List.mem_cons_self
    have e : sumP (q :: Q) 1 = distI q.1 q.2 + sumP Q 1 := by simp [sumP, priceV]
    rw [e, ih, dist_ind hq.1 hq.2, ← sumR_add]
    refine sumR_congr (n := 2000) (fun i _ => ?_) _ (Nat.le_refl _)
    rw [hits_cons, List.map_cons, List.map_cons, cnt_cons, cnt_cons]
    omega
theorem sq_split (Q : List (Int × Int)) : sumP Q 2 = ((Q.map Prod.fst).map fun x => (1000 - x) * (1000 - x)).sum + ((Q.map Prod.snd).map fun x => (1000 - x) * (1000 - x)).sum - 2 * (Q.map fun q => (1000 - q.1) * (1000 - q.2)).sum := by
  induction Q with
  | nil => simp [sumP]
  | cons q Q ih =>
    have e : sumP (q :: Q) 2 = (q.2 - q.1) * (q.2 - q.1) + sumP Q 2 := by simp [sumP, priceV_two]
    rw [e, ih]
    simp only [List.map_cons, List.sum_cons]
    generalize (List.map (fun x => (1000 - x) * (1000 - x)) (List.map Prod.fst Q)).sum = A
    generalize (List.map (fun x => (1000 - x) * (1000 - x)) (List.map Prod.snd Q)).sum = B
    generalize (List.map (fun q : Int × Int => (1000 - q.1) * (1000 - q.2)) Q).sum = C
    grind
theorem perm_sum {l m : List Int} (h : l.Perm m) : l.sum = m.sum := by
  induction h with
  | nil => rfl
  | cons x _ ih => simp [ih]
  | swap x y l => simp; omega
  | trans _ _ a b => rw [a, b]
theorem zip_fst {u v : List Int} (h : u.length = v.length) : (u.zip v).map Prod.fst = u := List.map_fst_zip (by omega)
theorem zip_snd {u v : List Int} (h : u.length = v.length) : (u.zip v).map Prod.snd = v := List.map_snd_zip (by omega)
theorem inR_of {Q : List (Int × Int)} {u v : List Int} (h1 : (Q.map Prod.fst).Perm u) (h2 : (Q.map Prod.snd).Perm v) (bu : ∀ x ∈ u, -1000 ≤ x ∧ x ≤ 1000) (bv : ∀ x ∈ v, -1000 ≤ x ∧ x ≤ 1000) : InR Q := fun _ hq =>
  ⟨bu _ (h1.mem_iff.1 (List.mem_map_of_mem hq)), bv _ (h2.mem_iff.1 (List.mem_map_of_mem hq))⟩
section
variable {Q : List (Int × Int)} {u v : List Int} (h1 : (Q.map Prod.fst).Perm u) (h2 : (Q.map Prod.snd).Perm v) (hu : u.Pairwise (· ≤ ·)) (hv : v.Pairwise (· ≤ ·)) (hl : u.length = v.length) (bu : ∀ x ∈ u, -1000 ≤ x ∧ x ≤ 1000) (bv : ∀ x ∈ v, -1000 ≤ x ∧ x ≤ 1000)
include h1 h2 hu hv hl
theorem hits_zip (s t : Int) : hits (u.zip v) s t = min ((Q.map Prod.fst).countP (fun x => decide (x ≤ s))) ((Q.map Prod.snd).countP (fun x => decide (x ≤ t))) := by
  rw [hits_min (zip_uncrossed hu hv), zip_fst hl, zip_snd hl, h1.countP_eq, h2.countP_eq]
theorem hits_best (s t : Int) : hits Q s t ≤ hits (u.zip v) s t := by
  rw [hits_zip h1 h2 hu hv hl]
  have := hits_le Q s t
  omega
include bu bv
omit h1 h2 hu hv in
theorem inR_zip : InR (u.zip v) := inR_of (Q := u.zip v) (by rw [zip_fst hl]) (by rw [zip_snd hl]) bu bv
theorem best_one : sumP (u.zip v) 1 ≤ sumP Q 1 := by
  rw [dist_hits (inR_zip hl bu bv), dist_hits (inR_of h1 h2 bu bv)]
  refine sumR_mono (n := 2000) (fun i _ => ?_) _ (Nat.le_refl _)
  have := hits_best h1 h2 hu hv hl (thr i) (thr i)
  rw [zip_fst hl, zip_snd hl, h1.countP_eq, h2.countP_eq]
  omega
omit hu hv in
theorem two_eq : sumP Q 2 - sumP (u.zip v) 2 = 2 * (sumR (fun i => sumR (fun j => (hits (u.zip v) (thr i) (thr j) : Int)) 2000) 2000 - sumR (fun i => sumR (fun j => (hits Q (thr i) (thr j) : Int)) 2000) 2000) := by
  rw [← prod_hits (inR_zip hl bu bv), ← prod_hits (inR_of h1 h2 bu bv), sq_split, sq_split, zip_fst hl, zip_snd hl, perm_sum (h1.map _), perm_sum (h2.map _)]
  omega
theorem best_two : sumP (u.zip v) 2 ≤ sumP Q 2 := by
  have e := two_eq h1 h2 hl bu bv
  have h : sumR (fun i => sumR (fun j => (hits Q (thr i) (thr j) : Int)) 2000) 2000 ≤ sumR (fun i => sumR (fun j => (hits (u.zip v) (thr i) (thr j) : Int)) 2000) 2000 :=
    sumR_mono (n := 2000) (fun i _ => sumR_mono (n := 2000) (fun j _ => by have := hits_best h1 h2 hu hv hl (thr i) (thr j); omega) _ (Nat.le_refl _)) _ (Nat.le_refl _)
  omega
theorem two_same (h : ¬ Crossed Q) : sumP Q 2 = sumP (u.zip v) 2 := by
  have e := two_eq h1 h2 hl bu bv
  have h : sumR (fun i => sumR (fun j => (hits Q (thr i) (thr j) : Int)) 2000) 2000 = sumR (fun i => sumR (fun j => (hits (u.zip v) (thr i) (thr j) : Int)) 2000) 2000 :=
    sumR_congr (n := 2000) (fun i _ => sumR_congr (n := 2000) (fun j _ => by rw [hits_min h, hits_zip h1 h2 hu hv hl]) _ (Nat.le_refl _)) _ (Nat.le_refl _)
  omega
theorem two_more (h : Crossed Q) : sumP (u.zip v) 2 < sumP Q 2 := by
  have e := two_eq h1 h2 hl bu bv
  obtain ⟨q, hq, r, hr, hlt, c1, c2⟩ := hits_crossed h
  have hi := inR_of h1 h2 bu bv
  have q1 := hi q hq
  have r1 := hi r hr
  obtain ⟨i, hi2⟩ : ∃ i : Nat, thr i = q.1 ∧ i < 2000 := ⟨(q.1 + 1000).toNat, by unfold thr; omega, by omega⟩
  obtain ⟨j, hj2⟩ : ∃ j : Nat, thr j = r.2 ∧ j < 2000 := ⟨(r.2 + 1000).toNat, by unfold thr; omega, by omega⟩
  rw [← hits_zip h1 h2 hu hv hl, ← hi2.1, ← hj2.1] at hlt
  have hle : ∀ i j, (hits Q (thr i) (thr j) : Int) ≤ hits (u.zip v) (thr i) (thr j) := fun i j => by have := hits_best h1 h2 hu hv hl (thr i) (thr j); omega
  have h : sumR (fun i => sumR (fun j => (hits Q (thr i) (thr j) : Int)) 2000) 2000 < sumR (fun i => sumR (fun j => (hits (u.zip v) (thr i) (thr j) : Int)) 2000) 2000 :=
    sumR_lt (n := 2000) (j := i) (fun i _ => sumR_mono (n := 2000) (fun j _ => hle i j) _ (Nat.le_refl _)) (sumR_lt (n := 2000) (j := j) (fun j _ => hle i j) (by omega) _ (Nat.le_refl _) hj2.2) _ (Nat.le_refl _) hi2.2
  omega
end
end Go.Proofs.Ytgnjaapjaglleaa

namespace Go.Proofs.Ytgnjaapjaglleaa

def massAt (l : List Atom) (p : Int) : Int := match l.find? (fun x => decide (x.p = p)) with | some x => x.m | none => 0
theorem massAt_hit {P M : Int} {l : List Atom} (h : isListB P M l = true) {k : Nat} (hk : k < l.length) : massAt l l[k].p = l[k].m := by
  have hp := isListB_pw h
  unfold massAt
  have : l.find? (fun x => decide (x.p = l[k].p)) = some l[k] := by
    rw [List.find?_eq_some_iff_getElem]
    refine ⟨by simp, k, hk, rfl, fun j hj => ?_⟩
    rw [List.pairwise_iff_getElem] at hp
    have := hp j k (by omega) hk hj
    simp; omega
  rw [this]
theorem massAt_miss {l : List Atom} {p : Int} (h : ∀ x ∈ l, x.p ≠ p) : massAt l p = 0 := by
  unfold massAt
  have : l.find? (fun x => decide (x.p = p)) = none := by
    rw [List.find?_eq_none]; intro x hx; simpa using h x hx
  rw [this]
theorem massAt_cons (x : Atom) (l : List Atom) (p : Int) : massAt (x :: l) p = if x.p = p then x.m else massAt l p := by
  unfold massAt
  rw [List.find?_cons]
  by_cases h : x.p = p <;> simp [h]
theorem massAt_bd {l : List Atom} (hF : Fine l) (p : Int) : 0 ≤ massAt l p ∧ massAt l p ≤ 1000 := by
  unfold massAt
  split
  · next x hx =>
    have := List.mem_of_find?_eq_some hx
    obtain ⟨j, hj, rfl⟩ := List.getElem_of_mem this
    have := (hF.2 j hj).2
    omega
  · omega
theorem count_units2 : ∀ {l : List Atom}, l.Pairwise (fun x y => x.p < y.p) → (∀ x ∈ l, 0 ≤ x.m) → ∀ p : Int, ((unitsL l).count p : Int) = massAt l p
  | [], _, _, p => by simp [unitsL, massAt]
  | x :: l, hp, hm, p => by
    have ih := count_units2 (l := l) (List.pairwise_cons.1 hp).2 (fun y hy => hm y (List.mem_cons_of_mem _ hy)) p
    have e : unitsL (x :: l) = List.replicate x.m.toNat x.p ++ unitsL l := by simp [unitsL]
    rw [e, List.count_append, List.count_replicate, massAt_cons]
    by_cases h : x.p = p
    · rw [if_pos h, if_pos (by simpa using h)]
      have : massAt l p = 0 := massAt_miss fun y hy => by have := (List.pairwise_cons.1 hp).1 y hy; omega
      have hx := hm x List.mem_cons_self
      omega
    · rw [if_neg h, if_neg (by simpa using h)]; omega
theorem load_pw {l : List Atom} (h : valLoad l = 0) : l.Pairwise (fun x y => x.p < y.p) := isListB_pw (listErr_ok h).2
theorem load_count {l : List Atom} (h : valLoad l = 0) (p : Int) : ((unitsL l).count p : Int) = massAt l p :=
  count_units2 (load_pw h) (fun x hx => by have := (isListB_mem (listErr_ok h).2 hx).2; omega) p
theorem load_in {l : List Atom} (h : valLoad l = 0) : ∀ x ∈ unitsL l, -1000 ≤ x ∧ x ≤ 1000 := fun x hx => by
  obtain ⟨k, hk, rfl⟩ := List.getElem_of_mem hx
  have := (load_asc h).2 k hk
  rwa [gi_at, List.getElem?_eq_getElem hk, Option.getD_some] at this
theorem countP_step (L : List Int) (t : Int) : L.countP (fun x => decide (x ≤ t)) = L.countP (fun x => decide (x ≤ t - 1)) + L.count t := by
  induction L with
  | nil => rfl
  | cons x L ih =>
    rw [List.countP_cons, List.countP_cons, List.count_cons, ih]
    by_cases h1 : x = t
    · subst h1
      rw [if_pos (by simp), if_neg (by simp; omega), if_pos (by simp)]; omega
    · rw [if_neg (c := (x == t) = true) (by simpa using h1)]
      by_cases h2 : x ≤ t - 1
      · rw [if_pos (by simp; omega), if_pos (by simpa using h2)]; omega
      · rw [if_neg (by simp; omega), if_neg (by simpa using h2)]; omega
/-- how much lies up to t -/
def bel (l : List Atom) (t : Int) : Int := belTo l t l.length
theorem bel_cnt {l : List Atom} (h : valLoad l = 0) (t : Int) : bel l t = ((unitsL l).countP (fun x => decide (x ≤ t)) : Nat) := bel_count (fine_load h) t
theorem bel_step {l : List Atom} (h : valLoad l = 0) (t : Int) : bel l t = bel l (t - 1) + massAt l t := by
  rw [bel_cnt h, bel_cnt h, countP_step, ← load_count h]; omega
theorem bel_low {l : List Atom} (h : valLoad l = 0) {t : Int} (ht : t < -1000) : bel l t = 0 := by
  rw [bel_cnt h, List.countP_eq_zero.2]
  · rfl
  · intro x hx; have := load_in h x hx; simp; omega
theorem bel_high {l : List Atom} (h : valLoad l = 0) {t : Int} (ht : 1000 ≤ t) : bel l t = totalL l := by
  rw [bel_cnt h, List.countP_eq_length.2, units_len (fine_load h)]
  intro x hx; have := load_in h x hx; simp; omega
def onPlace (a b : List Atom) (p : Int) : Bool := decide (0 < massAt a p) || decide (0 < massAt b p)
/-- the places of both loads among the first n ones from -1000 on -/
def placesTo (a b : List Atom) (n : Nat) : List Int := ((List.range n).map thr).filter (onPlace a b)
def placesL2 (a b : List Atom) : List Int := placesTo a b 2001
theorem placesTo_succ (a b : List Atom) (n : Nat) : placesTo a b (n + 1) = if onPlace a b (thr n) then placesTo a b n ++ [thr n] else placesTo a b n := by
  unfold placesTo
  rw [List.range_succ, List.map_append, List.filter_append]
  by_cases h : onPlace a b (thr n) = true
  · rw [if_pos h]; simp [h]
  · rw [if_neg h]; simp [h]
theorem onPlace_no {a b : List Atom} (ha : Fine a) (hb : Fine b) {p : Int} (h : ¬ onPlace a b p = true) : massAt a p = 0 ∧ massAt b p = 0 := by
  unfold onPlace at h
  have h1 := massAt_bd ha p
  have h2 := massAt_bd hb p
  simp at h
  omega
theorem places_mem {a b : List Atom} {n : Nat} {p : Int} : p ∈ placesTo a b n ↔ (-1000 ≤ p ∧ p < (n : Int) - 1000) ∧ onPlace a b p = true := by
  unfold placesTo
  rw [List.mem_filter, List.mem_map]
  constructor
  · rintro ⟨⟨i, hi, rfl⟩, h⟩
    have := List.mem_range.1 hi
    unfold thr at *
    exact ⟨by omega, h⟩
  · rintro ⟨h1, h2⟩
    refine ⟨⟨(p + 1000).toNat, List.mem_range.2 (by omega), by unfold thr; omega⟩, h2⟩
theorem places_pw (a b : List Atom) (n : Nat) : (placesTo a b n).Pairwise (· < ·) := by
  unfold placesTo
  refine List.Pairwise.filter _ ?_
  rw [List.pairwise_map]
  refine List.Pairwise.imp ?_ List.pairwise_lt_range
  intro i j hij; unfold thr; omega
def lastD (L : List Int) (d : Int) : Int := L.getLast?.getD d
theorem gi_snoc_last (L : List Int) (x : Int) : gi (L ++ [x]) L.length = x := by simp [gi]
theorem gi_snoc_lt {L : List Int} {x : Int} {i : Nat} (h : i < L.length) : gi (L ++ [x]) i = gi L i := by simp [gi, List.getElem?_append_left h]
/-- the gap of the two heaps -/
def gapD (a b : List Atom) (t : Int) : Int := bel a t - bel b t
/-- the area, place by place: the first n stretches -/
def areaR (a b : List Atom) (L : List Int) (n : Nat) : Int := sumR (fun i => distI (gapD a b (gi L i)) 0 * (gi L (i + 1) - gi L i)) n
theorem areaR_snoc {a b : List Atom} {L : List Int} {x : Int} {n : Nat} (h : n + 1 ≤ L.length) : areaR a b (L ++ [x]) n = areaR a b L n := by
  unfold areaR
  refine sumR_congr (n := n) (fun i hi => ?_) _ (Nat.le_refl _)
  rw [gi_snoc_lt (by omega), gi_snoc_lt (by omega)]
theorem gap_step {a b : List Atom} (ha : valLoad a = 0) (hb : valLoad b = 0) (t : Int) : gapD a b t = gapD a b (t - 1) + massAt a t - massAt b t := by
  unfold gapD; rw [bel_step ha, bel_step hb]; omega
/-- what holds of the places among the first n + 1 ones -/
structure PlSt (a b : List Atom) (n : Nat) (L : List Int) : Prop where
  gap : gapD a b (thr n) = if L = [] then 0 else gapD a b (gi L (L.length - 1))
  low : L ≠ [] → gi L (L.length - 1) ≤ thr n
  each : ∀ i, i < L.length → gapD a b (gi L i) = (if i = 0 then 0 else gapD a b (gi L (i - 1))) + massAt a (gi L i) - massAt b (gi L i)
  area : if L = [] then sumR (fun i => distI (gapD a b (thr i)) 0) n = 0 else areaR a b L (L.length - 1) + distI (gapD a b (gi L (L.length - 1))) 0 * (thr n - gi L (L.length - 1)) = sumR (fun i => distI (gapD a b (thr i)) 0) n
theorem plSt_place {a b : List Atom} (_ha : valLoad a = 0) (_hb : valLoad b = 0) {n : Nat} {L : List Int} {g : Int} (hg : g = if L = [] then 0 else gapD a b (gi L (L.length - 1))) (hstep : gapD a b (thr n) = g + massAt a (thr n) - massAt b (thr n))
    (each : ∀ i, i < L.length → gapD a b (gi L i) = (if i = 0 then 0 else gapD a b (gi L (i - 1))) + massAt a (gi L i) - massAt b (gi L i))
    (harea : (if L = [] then 0 else areaR a b L (L.length - 1) + distI (gapD a b (gi L (L.length - 1))) 0 * (thr n - gi L (L.length - 1))) = sumR (fun i => distI (gapD a b (thr i)) 0) n) : PlSt a b n (L ++ [thr n]) := by
  have el : (L ++ [thr n]).length - 1 = L.length := by simp
  have ne : L ++ [thr n] ≠ [] := by simp
  refine ⟨?_, ?_, ?_, ?_⟩
  · rw [if_neg ne, el, gi_snoc_last]
  · intro _; rw [el, gi_snoc_last]; omega
  · intro i hi
    rw [List.length_append] at hi
    simp only [List.length_cons, List.length_nil] at hi
    by_cases e : i = L.length
    · subst e
      rw [gi_snoc_last, hstep, hg]
      by_cases h0 : L = []
      · subst h0; simp
      · have : L.length ≠ 0 := fun h => h0 (List.length_eq_zero_iff.1 h)
        rw [if_neg h0, if_neg this, gi_snoc_lt (by omega)]
    · rw [gi_snoc_lt (by omega), each i (by omega)]
      by_cases h0 : i = 0
      · rw [if_pos h0, if_pos h0]
      · rw [if_neg h0, if_neg h0, gi_snoc_lt (by omega)]
  · rw [if_neg ne, el, gi_snoc_last, ← harea]
    by_cases h0 : L = []
    · subst h0; simp [areaR, sumR]
    · have hl : L.length ≠ 0 := fun h => h0 (List.length_eq_zero_iff.1 h)
      rw [if_neg h0]
      obtain ⟨k, hk⟩ : ∃ k, L.length = k + 1 := ⟨L.length - 1, by omega⟩
      rw [hk, Nat.add_sub_cancel]
      have e1 : areaR a b (L ++ [thr n]) (k + 1) = areaR a b (L ++ [thr n]) k + distI (gapD a b (gi (L ++ [thr n]) k)) 0 * (gi (L ++ [thr n]) (k + 1) - gi (L ++ [thr n]) k) := rfl
      have e2 : gi (L ++ [thr n]) (k + 1) = thr n := by rw [← hk]; exact gi_snoc_last _ _
      rw [e1, e2, areaR_snoc (by omega), gi_snoc_lt (by omega)]
      omega
theorem plSt_zero {a b : List Atom} (ha : valLoad a = 0) (hb : valLoad b = 0) : PlSt a b 0 (placesTo a b 1) := by
  have h0 : gapD a b (thr 0 - 1) = 0 := by unfold gapD thr; rw [bel_low ha (by omega), bel_low hb (by omega)]; rfl
  have hs := gap_step ha hb (thr 0)
  rw [h0] at hs
  rw [show (1 : Nat) = 0 + 1 from rfl, placesTo_succ]
  have e0 : placesTo a b 0 = [] := rfl
  rw [e0]
  by_cases h : onPlace a b (thr 0) = true
  · rw [if_pos h]
    exact plSt_place ha hb (g := 0) (by simp) hs (fun i hi => by simp at hi) (by simp [sumR])
  · rw [if_neg h]
    obtain ⟨z1, z2⟩ := onPlace_no (fine_load ha) (fine_load hb) h
    refine ⟨by rw [hs, z1, z2]; simp, fun h => absurd rfl h, fun i hi => by simp at hi, by simp [sumR]⟩
theorem plSt_at {a b : List Atom} (ha : valLoad a = 0) (hb : valLoad b = 0) : ∀ n, PlSt a b n (placesTo a b (n + 1))
  | 0 => plSt_zero ha hb
  | n + 1 => by
    have ih := plSt_at ha hb n
    have et : thr (n + 1) - 1 = thr n := by unfold thr; omega
    have hs := gap_step ha hb (thr (n + 1))
    rw [et, ih.gap] at hs
    have hsum : sumR (fun i => distI (gapD a b (thr i)) 0) (n + 1) = sumR (fun i => distI (gapD a b (thr i)) 0) n + distI (gapD a b (thr n)) 0 := rfl
    rw [placesTo_succ]
    by_cases h : onPlace a b (thr (n + 1)) = true
    · rw [if_pos h]
      refine plSt_place ha hb rfl hs ih.each ?_
      have ha' := ih.area
      rw [hsum, ih.gap]
      by_cases h0 : placesTo a b (n + 1) = []
      · rw [if_pos h0] at ha' ⊢; rw [if_pos h0, ha']; rfl
      · rw [if_neg h0] at ha' ⊢; rw [if_neg h0, ← ha', show thr (n + 1) = thr n + 1 by omega]
        generalize distI (gapD a b (gi (placesTo a b (n + 1)) ((placesTo a b (n + 1)).length - 1))) 0 = D
        generalize gi (placesTo a b (n + 1)) ((placesTo a b (n + 1)).length - 1) = x
        rw [show thr n + 1 - x = (thr n - x) + 1 by omega, Int.mul_add, Int.mul_one]
        omega
    · rw [if_neg h]
      obtain ⟨z1, z2⟩ := onPlace_no (fine_load ha) (fine_load hb) h
      have hg : gapD a b (thr (n + 1)) = if placesTo a b (n + 1) = [] then 0 else gapD a b (gi (placesTo a b (n + 1)) ((placesTo a b (n + 1)).length - 1)) := by rw [hs, z1, z2]; omega
      refine ⟨hg, fun h0 => by have := ih.low h0; omega, ih.each, ?_⟩
      have ha' := ih.area
      rw [hsum, ih.gap]
      by_cases h0 : placesTo a b (n + 1) = []
      · rw [if_pos h0] at ha' ⊢; rw [if_pos h0, ha']; rfl
      · rw [if_neg h0] at ha' ⊢; rw [if_neg h0, ← ha', show thr (n + 1) = thr n + 1 by omega]
        generalize distI (gapD a b (gi (placesTo a b (n + 1)) ((placesTo a b (n + 1)).length - 1))) 0 = D
        generalize gi (placesTo a b (n + 1)) ((placesTo a b (n + 1)).length - 1) = x
        rw [show thr n + 1 - x = (thr n - x) + 1 by omega, Int.mul_add, Int.mul_one]
        omega
theorem distI_sub (x y : Int) : distI (x - y) 0 = distI y x := by unfold distI; split <;> split <;> omega
theorem areaTo_gap (a b : List Atom) (n : Nat) : areaTo a b n = sumR (fun i => distI (gapD a b (thr i)) 0) n := by
  unfold areaTo
  refine sumR_congr (n := n) (fun i _ => ?_) _ (Nat.le_refl _)
  unfold gapD thr bel
  rw [distI_sub]
theorem area_end {a b : List Atom} (h1 : valLoad a = 0) (h2 : valLoad b = 0) {n m : Nat} (hm : n + 1 = m) (hz : gapD a b (thr n) = 0) : areaR a b (placesTo a b m) ((placesTo a b m).length - 1) = sumR (fun i => distI (gapD a b (thr i)) 0) n := by
  subst hm
  have hs := plSt_at h1 h2 n
  have hg := hs.gap
  have ha := hs.area
  by_cases h0 : placesTo a b (n + 1) = []
  · rw [if_pos h0] at ha
    rw [ha, h0]; rfl
  · rw [if_neg h0] at ha hg
    rw [← ha, ← hg, hz, show distI 0 0 = 0 from rfl]; omega
theorem gap_end {a b : List Atom} (h : linePair a b = 0) : gapD a b (thr 2000) = 0 := by
  obtain ⟨h1, h2, h3⟩ := linePair_ok h
  unfold gapD thr; rw [bel_high h1 (by omega), bel_high h2 (by omega)]; omega
/-- the area, place by place, is the sum of the distances -/
theorem areaR_said {a b : List Atom} (h : linePair a b = 0) : areaR a b (placesL2 a b) ((placesL2 a b).length - 1) = apartL a b 1 := by
  obtain ⟨h1, h2, h3⟩ := linePair_ok h
  rw [← area_said h, areaTo_gap]
  exact area_end h1 h2 rfl (gap_end h)
/-- what heights are worth: the first n places -/
def worthTo (a b : List Atom) (L h : List Int) (n : Nat) : Int := sumR (fun i => gi h i * (massAt b (gi L i) - massAt a (gi L i))) n
theorem worth_abel {a b : List Atom} {n : Nat} {L h : List Int} (hs : PlSt a b n L) : ∀ k, k + 1 ≤ L.length → worthTo a b L h (k + 1) = sumR (fun i => gapD a b (gi L i) * (gi h (i + 1) - gi h i)) k - gi h k * gapD a b (gi L k)
  | 0, hk => by
    have := hs.each 0 hk
    rw [if_pos rfl] at this
    unfold worthTo
    simp only [sumR]
    rw [this]
    grind
  | k + 1, hk => by
    have ih := worth_abel (h := h) hs k (by omega)
    have e := hs.each (k + 1) hk
    rw [if_neg (by omega), Nat.add_sub_cancel] at e
    have e1 : worthTo a b L h (k + 1 + 1) = worthTo a b L h (k + 1) + gi h (k + 1) * (massAt b (gi L (k + 1)) - massAt a (gi L (k + 1))) := rfl
    rw [e1, ih]
    simp only [sumR]
    rw [e]
    grind
theorem worth_end {a b : List Atom} {h : List Int} (h1 : valLoad a = 0) (h2 : valLoad b = 0) {n m : Nat} (hm : n + 1 = m) (hz : gapD a b (thr n) = 0) : worthTo a b (placesTo a b m) h (placesTo a b m).length = sumR (fun i => gapD a b (gi (placesTo a b m) i) * (gi h (i + 1) - gi h i)) ((placesTo a b m).length - 1) := by
  subst hm
  have hs := plSt_at h1 h2 n
  have hg := hs.gap
  by_cases h0 : placesTo a b (n + 1) = []
  · rw [h0]; rfl
  · rw [if_neg h0] at hg
    have hl : (placesTo a b (n + 1)).length ≠ 0 := fun h => h0 (List.length_eq_zero_iff.1 h)
    have hw := worth_abel (h := h) hs ((placesTo a b (n + 1)).length - 1) (by omega)
    rw [show (placesTo a b (n + 1)).length - 1 + 1 = (placesTo a b (n + 1)).length by omega] at hw
    rw [hw, ← hg, hz]
    omega
theorem worth_said {a b : List Atom} {h : List Int} (hp : linePair a b = 0) : worthTo a b (placesL2 a b) h (placesL2 a b).length = sumR (fun i => gapD a b (gi (placesL2 a b) i) * (gi h (i + 1) - gi h i)) ((placesL2 a b).length - 1) := by
  obtain ⟨h1, h2, h3⟩ := linePair_ok hp
  exact worth_end h1 h2 rfl (gap_end hp)
theorem places_gi {a b : List Atom} {i j : Nat} (hij : i < j) (hj : j < (placesL2 a b).length) : gi (placesL2 a b) i < gi (placesL2 a b) j := by
  have := places_pw a b 2001
  rw [List.pairwise_iff_getElem] at this
  have h := this i j (by unfold placesL2 at hj; omega) hj hij
  unfold placesL2 at *
  rw [gi_at, gi_at, List.getElem?_eq_getElem (by omega), List.getElem?_eq_getElem hj]
  exact h
theorem places_bd {a b : List Atom} {i : Nat} (hi : i < (placesL2 a b).length) : -1000 ≤ gi (placesL2 a b) i ∧ gi (placesL2 a b) i ≤ 1000 := by
  have := (places_mem (a := a) (b := b) (n := 2001)).1 (gi_mem hi)
  unfold placesL2
  omega
/-- not steeper than 1 -/
def gentle (L h : List Int) (n : Nat) : Prop := ∀ i, i + 1 < n → distI (gi h i) (gi h (i + 1)) ≤ gi L (i + 1) - gi L i
theorem worth_le {a b : List Atom} {h : List Int} (hp : linePair a b = 0) (hg : gentle (placesL2 a b) h (placesL2 a b).length) : worthTo a b (placesL2 a b) h (placesL2 a b).length ≤ apartL a b 1 := by
  rw [worth_said hp, ← areaR_said hp]
  unfold areaR
  refine sumR_mono (n := (placesL2 a b).length - 1) (fun i hi => ?_) _ (Nat.le_refl _)
  have h1 := hg i (by omega)
  generalize gapD a b (gi (placesL2 a b) i) = D
  generalize gi (placesL2 a b) (i + 1) - gi (placesL2 a b) i = d at *
  have hd : -(d) ≤ gi h (i + 1) - gi h i ∧ gi h (i + 1) - gi h i ≤ d := by unfold distI at h1; split at h1 <;> omega
  generalize gi h (i + 1) - gi h i = e at *
  have hd0 : 0 ≤ d := by omega
  unfold distI
  split
  · have : (0 - D) * e ≥ (0 - D) * (-d) := Int.mul_le_mul_of_nonneg_left hd.1 (by omega)
    grind
  · have : (D - 0) * e ≤ (D - 0) * d := Int.mul_le_mul_of_nonneg_left hd.2 (by omega)
    simpa using this
/-- the sign of a gap -/
def sgnI (d : Int) : Int := if d < 0 then -1 else if 0 < d then 1 else 0
/-- the heights that the program returns -/
def heightAt (a b : List Atom) : Nat → Int
  | 0 => 0
  | i + 1 => heightAt a b i + sgnI (gapD a b (gi (placesL2 a b) i)) * (gi (placesL2 a b) (i + 1) - gi (placesL2 a b) i)
def heightsL (a b : List Atom) : List Int := (List.range (placesL2 a b).length).map (heightAt a b)
theorem heightsL_length (a b : List Atom) : (heightsL a b).length = (placesL2 a b).length := by simp [heightsL]
theorem heightsL_gi {a b : List Atom} {i : Nat} (h : i < (placesL2 a b).length) : gi (heightsL a b) i = heightAt a b i := by simp [heightsL, gi, h]
theorem sgn_mul (s d : Int) (h : 0 ≤ d) : -d ≤ sgnI s * d ∧ sgnI s * d ≤ d := by unfold sgnI; split <;> (try split) <;> omega
theorem heights_gentle (a b : List Atom) : gentle (placesL2 a b) (heightsL a b) (placesL2 a b).length := fun i hi => by
  rw [heightsL_gi (by omega), heightsL_gi hi]
  have hd := places_gi (a := a) (b := b) (show i < i + 1 by omega) hi
  have := sgn_mul (gapD a b (gi (placesL2 a b) i)) (gi (placesL2 a b) (i + 1) - gi (placesL2 a b) i) (by omega)
  simp only [heightAt]
  generalize sgnI (gapD a b (gi (placesL2 a b) i)) * (gi (placesL2 a b) (i + 1) - gi (placesL2 a b) i) = x at *
  unfold distI; split <;> omega
theorem heightAt_bd (a b : List Atom) : ∀ i, i < (placesL2 a b).length → -(gi (placesL2 a b) i - gi (placesL2 a b) 0) ≤ heightAt a b i ∧ heightAt a b i ≤ gi (placesL2 a b) i - gi (placesL2 a b) 0
  | 0, _ => by simp [heightAt]
  | i + 1, hi => by
    have ih := heightAt_bd a b i (by omega)
    have hd := places_gi (a := a) (b := b) (show i < i + 1 by omega) hi
    have := sgn_mul (gapD a b (gi (placesL2 a b) i)) (gi (placesL2 a b) (i + 1) - gi (placesL2 a b) i) (by omega)
    simp only [heightAt]
    generalize sgnI (gapD a b (gi (placesL2 a b) i)) * (gi (placesL2 a b) (i + 1) - gi (placesL2 a b) i) = x at *
    omega
theorem heights_bd {a b : List Atom} {i : Nat} (hi : i < (placesL2 a b).length) : -2000 ≤ heightAt a b i ∧ heightAt a b i ≤ 2000 := by
  have h1 := heightAt_bd a b i hi
  have h2 := places_bd (a := a) (b := b) hi
  have h3 := places_bd (a := a) (b := b) (i := 0) (by omega)
  omega
theorem heights_worth {a b : List Atom} (hp : linePair a b = 0) : worthTo a b (placesL2 a b) (heightsL a b) (placesL2 a b).length = apartL a b 1 := by
  rw [worth_said hp, ← areaR_said hp]
  unfold areaR
  refine sumR_congr (n := (placesL2 a b).length - 1) (fun i hi => ?_) _ (Nat.le_refl _)
  rw [heightsL_gi (by omega), heightsL_gi (by omega)]
  simp only [heightAt]
  generalize gapD a b (gi (placesL2 a b) i) = D
  generalize gi (placesL2 a b) (i + 1) - gi (placesL2 a b) i = d
  rw [show heightAt a b i + sgnI D * d - heightAt a b i = sgnI D * d by omega]
  unfold sgnI distI
  split
  · rw [if_pos (by omega)]; grind
  · split
    · rw [if_neg (by omega)]; grind
    · have : D = 0 := by omega
      subst this; simp
/-- a sum over the places -/
theorem places_sum {a b : List Atom} {f : Int → Int} (hf : ∀ p, ¬ onPlace a b p = true → f p = 0) : ∀ n, ((placesTo a b n).map f).sum = sumR (fun i => f (thr i)) n
  | 0 => rfl
  | n + 1 => by
    have ih := places_sum hf n
    rw [placesTo_succ]
    simp only [sumR]
    by_cases h : onPlace a b (thr n) = true
    · rw [if_pos h, List.map_append, List.sum_append, ih]; simp
    · rw [if_neg h, ih, hf _ h]; omega
theorem mass_sum {l : List Atom} (h : valLoad l = 0) : ∀ n, sumR (fun i => massAt l (thr i)) n = bel l ((n : Int) - 1001)
  | 0 => by rw [bel_low h (by omega)]; rfl
  | n + 1 => by
    simp only [sumR]
    rw [mass_sum h n, bel_step h (((n + 1 : Nat) : Int) - 1001)]
    have e : ((n + 1 : Nat) : Int) - 1001 = thr n := by unfold thr; omega
    rw [e]
    congr 2
    unfold thr; omega
end Go.Proofs.Ytgnjaapjaglleaa

namespace Go.Proofs.Ytgnjaapjaglleaa

def goodMove (M : List Move) (i : Nat) : Bool := withinB (mvK M i).fr (-1000) 1000 && (withinB (mvK M i).to (-1000) 1000 && withinB (mvK M i).m 1 150)
def allMoves (M : List Move) : Bool := (List.range M.length).all (goodMove M)
theorem allMoves_no {M : List Move} {k : Nat} (hk : k < M.length) (h : goodMove M k = false) : allMoves M = false := by
  unfold allMoves; rw [List.all_eq_false]; exact ⟨k, List.mem_range.2 hk, by simp [h]⟩
theorem allMoves_yes {M : List Move} (h : ∀ j, j < M.length → goodMove M j = true) : allMoves M = true := by
  unfold allMoves; rw [List.all_eq_true]; exact fun j hj => h j (List.mem_range.1 hj)
theorem allMoves_at {M : List Move} (h : allMoves M = true) {k : Nat} (hk : k < M.length) : (-1000 ≤ M[k].fr ∧ M[k].fr ≤ 1000) ∧ (-1000 ≤ M[k].to ∧ M[k].to ≤ 1000) ∧ (1 ≤ M[k].m ∧ M[k].m ≤ 150) := by
  unfold allMoves at h; rw [List.all_eq_true] at h
  have := h k (List.mem_range.2 hk)
  unfold goodMove at this; rw [mvK_at hk] at this
  simp only [Bool.and_eq_true, withinB_iff] at this
  exact this
def movesErr (M : List Move) : Int := if 12 < M.length then 3 else if allMoves M then 0 else 1
theorem movesErr_ok {M : List Move} (h : movesErr M = 0) : M.length ≤ 12 ∧ allMoves M = true := by
  unfold movesErr at h
  split at h
  · simp at h
  · split at h
    · exact ⟨by omega, by assumption⟩
    · simp at h
/-- what leaves the place p, and what comes to it, by the first n moves -/
def leaveTo (M : List Move) (p : Int) (n : Nat) : Int := sumR (fun i => if (mvK M i).fr = p then (mvK M i).m else 0) n
def comeTo (M : List Move) (p : Int) (n : Nat) : Int := sumR (fun i => if (mvK M i).to = p then (mvK M i).m else 0) n
def balAt (a b : List Atom) (M : List Move) (p : Int) : Bool := decide (leaveTo M p M.length = massAt a p) && decide (comeTo M p M.length = massAt b p)
def balB (a b : List Atom) (M : List Move) : Bool := (List.range 2001).all fun i => balAt a b M (thr i)
theorem rep_count (n : Nat) (x : Int × Int) (p : Int) : ((List.replicate n x).map Prod.fst).count p = (if x.1 = p then n else 0) ∧ ((List.replicate n x).map Prod.snd).count p = (if x.2 = p then n else 0) := by
  rw [List.map_replicate, List.map_replicate, List.count_replicate, List.count_replicate]
  constructor <;> simp
theorem pairs_count {M : List Move} (hm : ∀ i, (hi : i < M.length) → 0 ≤ M[i].m) (p : Int) : ∀ n, n ≤ M.length → ((((pairsM (M.take n)).map Prod.fst).count p : Nat) : Int) = leaveTo M p n ∧ ((((pairsM (M.take n)).map Prod.snd).count p : Nat) : Int) = comeTo M p n
  | 0, _ => by simp [pairsM, leaveTo, comeTo, sumR]
  | n + 1, hn => by
    obtain ⟨i1, i2⟩ := pairs_count hm p n (by omega)
    have h1 := hm n (by omega)
    have e : pairsM [M[n]] = List.replicate M[n].m.toNat (M[n].fr, M[n].to) := by simp [pairsM]
    obtain ⟨c1, c2⟩ := rep_count M[n].m.toNat (M[n].fr, M[n].to) p
    rw [List.take_succ_eq_append_getElem (by omega), pairsM_app, List.map_append, List.map_append, List.count_append, List.count_append, e, c1, c2]
    unfold leaveTo comeTo at *
    simp only [sumR]
    rw [mvK_at (by omega), ← i1, ← i2]
    constructor
    · split <;> omega
    · split <;> omega
theorem pairs_count_all {M : List Move} (hm : ∀ i, (hi : i < M.length) → 0 ≤ M[i].m) (p : Int) : ((((pairsM M).map Prod.fst).count p : Nat) : Int) = leaveTo M p M.length ∧ ((((pairsM M).map Prod.snd).count p : Nat) : Int) = comeTo M p M.length := by
  have := pairs_count hm p M.length (Nat.le_refl _)
  rwa [List.take_length] at this
theorem moves_in {M : List Move} (h : allMoves M = true) : InR (pairsM M) := fun q hq => by
  unfold pairsM at hq
  obtain ⟨x, hx, h2⟩ := List.mem_flatMap.1 hq
  obtain ⟨j, hj, rfl⟩ := List.getElem_of_mem hx
  obtain ⟨_, rfl⟩ := List.mem_replicate.1 h2
  have := allMoves_at h hj
  exact ⟨this.1, this.2.1⟩
theorem thr_of {p : Int} (h : -1000 ≤ p ∧ p ≤ 1000) : ∃ i, i < 2001 ∧ thr i = p := ⟨(p + 1000).toNat, by omega, by unfold thr; omega⟩
theorem massAt_out {l : List Atom} (h : valLoad l = 0) {p : Int} (hp : ¬ (-1000 ≤ p ∧ p ≤ 1000)) : massAt l p = 0 := massAt_miss fun x hx e => hp (by have := (isListB_mem (listErr_ok h).2 hx).1; omega)
theorem leave_out {M : List Move} (h : allMoves M = true) {p : Int} (hp : ¬ (-1000 ≤ p ∧ p ≤ 1000)) : leaveTo M p M.length = 0 ∧ comeTo M p M.length = 0 := by
  unfold leaveTo comeTo
  constructor
  · rw [sumR_congr (n := M.length) (g := fun _ => 0) (fun i hi => by rw [mvK_at hi, if_neg]; intro e; have := (allMoves_at h hi).1; omega) _ (Nat.le_refl _), sumR_zero']
  · rw [sumR_congr (n := M.length) (g := fun _ => 0) (fun i hi => by rw [mvK_at hi, if_neg]; intro e; have := (allMoves_at h hi).2.1; omega) _ (Nat.le_refl _), sumR_zero']
theorem balB_all {a b : List Atom} {M : List Move} (ha : valLoad a = 0) (hb : valLoad b = 0) (hM : allMoves M = true) : balB a b M = true ↔ ∀ p, balAt a b M p = true := by
  unfold balB
  rw [List.all_eq_true]
  constructor
  · intro h p
    by_cases hp : -1000 ≤ p ∧ p ≤ 1000
    · obtain ⟨i, hi, rfl⟩ := thr_of hp
      exact h i (List.mem_range.2 hi)
    · unfold balAt
      rw [massAt_out ha hp, massAt_out hb hp, (leave_out hM hp).1, (leave_out hM hp).2]; rfl
  · exact fun h i _ => h _
/-- the first error of moves between loads -/
def chkErr (a b : List Atom) (M : List Move) : Int := if bothErr a b ≠ 0 then bothErr a b else if movesErr M ≠ 0 then movesErr M else if totalL a ≠ totalL b then 5 else if balB a b M then 0 else 7
theorem chkErr_ok {a b : List Atom} {M : List Move} (h : chkErr a b M = 0) : linePair a b = 0 ∧ movesErr M = 0 ∧ balB a b M = true := by
  unfold chkErr at h
  by_cases h1 : bothErr a b = 0
  · rw [if_neg (by simpa using h1)] at h
    by_cases h2 : movesErr M = 0
    · rw [if_neg (by simpa using h2)] at h
      by_cases h3 : totalL a = totalL b
      · rw [if_neg (by simpa using h3)] at h
        by_cases h4 : balB a b M = true
        · exact ⟨by unfold linePair; rw [if_neg (by simpa using h1), if_neg (by simpa using h3)], h2, h4⟩
        · rw [if_neg h4] at h; omega
      · rw [if_pos h3] at h; omega
    · rw [if_pos h2] at h; exact absurd h h2
  · rw [if_pos h1] at h; exact absurd h h1
theorem chkErr_mk {a b : List Atom} {M : List Move} (h1 : linePair a b = 0) (h2 : movesErr M = 0) (h3 : balB a b M = true) : chkErr a b M = 0 := by
  obtain ⟨a1, a2, a3⟩ := linePair_ok h1
  unfold chkErr
  rw [if_neg (by simp [bothErr, a1, a2]), if_neg (by simpa using h2), if_neg (by simpa using a3), if_pos h3]
theorem chk_perm {a b : List Atom} {M : List Move} (h : chkErr a b M = 0) : ((pairsM M).map Prod.fst).Perm (unitsL a) ∧ ((pairsM M).map Prod.snd).Perm (unitsL b) := by
  obtain ⟨h1, h2, h3⟩ := chkErr_ok h
  obtain ⟨a1, a2, a3⟩ := linePair_ok h1
  obtain ⟨m1, m2⟩ := movesErr_ok h2
  have hall := (balB_all a1 a2 m2).1 h3
  have hc := fun p => pairs_count_all (M := M) (fun i hi => by have := (allMoves_at m2 hi).2.2; omega) p
  constructor
  · rw [List.perm_iff_count]
    intro p
    have e := hall p
    unfold balAt at e
    simp only [Bool.and_eq_true, decide_eq_true_eq] at e
    have := (hc p).1
    have := load_count a1 p
    omega
  · rw [List.perm_iff_count]
    intro p
    have e := hall p
    unfold balAt at e
    simp only [Bool.and_eq_true, decide_eq_true_eq] at e
    have := (hc p).2
    have := load_count a2 p
    omega
/-- no two moves cross -/
def ordB (M : List Move) : Bool := M.all fun x => M.all fun y => !(decide (x.fr < y.fr) && decide (y.to < x.to))
theorem ordB_iff {M : List Move} (hm : ∀ x ∈ M, 1 ≤ x.m) : ordB M = true ↔ ¬ Crossed (pairsM M) := by
  have mem : ∀ x ∈ M, (x.fr, x.to) ∈ pairsM M := fun x hx => by
    unfold pairsM
    refine List.mem_flatMap.2 ⟨x, hx, List.mem_replicate.2 ⟨?_, rfl⟩⟩
    have := hm x hx; omega
  unfold ordB
  simp only [List.all_eq_true, Bool.not_eq_true', Bool.and_eq_false_iff, decide_eq_false_iff_not]
  constructor
  · rintro h ⟨q, hq, r, hr, h1, h2⟩
    unfold pairsM at hq hr
    obtain ⟨x, hx, e1⟩ := List.mem_flatMap.1 hq
    obtain ⟨y, hy, e2⟩ := List.mem_flatMap.1 hr
    obtain ⟨_, rfl⟩ := List.mem_replicate.1 e1
    obtain ⟨_, rfl⟩ := List.mem_replicate.1 e2
    have := h x hx y hy
    simp only at h1 h2
    omega
  · intro h x hx y hy
    by_cases c1 : x.fr < y.fr
    · by_cases c2 : y.to < x.to
      · exact absurd ⟨_, mem x hx, _, mem y hy, c1, c2⟩ h
      · exact .inr c2
    · exact .inl c1
theorem load_pw' {l : List Atom} (h : valLoad l = 0) : (unitsL l).Pairwise (· ≤ ·) := asc_pw (load_asc h).1
theorem pair_len {a b : List Atom} (h : linePair a b = 0) : (unitsL a).length = (unitsL b).length := by
  obtain ⟨a1, a2, a3⟩ := linePair_ok h
  exact units_eq (fine_load a1) (fine_load a2) a3
/-- no moves cost less than the least; by squares just the ordered ones cost as much -/
theorem bounds_said {a b : List Atom} {M : List Move} (h : chkErr a b M = 0) : apartL a b 1 ≤ costTo M 1 M.length ∧ apartL a b 2 ≤ costTo M 2 M.length ∧ (costTo M 2 M.length = apartL a b 2 ↔ ordB M = true) := by
  obtain ⟨h1, h2, h3⟩ := chkErr_ok h
  obtain ⟨a1, a2, a3⟩ := linePair_ok h1
  obtain ⟨m1, m2⟩ := movesErr_ok h2
  obtain ⟨p1, p2⟩ := chk_perm h
  have hl := pair_len h1
  have hm : ∀ x ∈ M, 1 ≤ x.m := fun x hx => by
    obtain ⟨j, hj, rfl⟩ := List.getElem_of_mem hx
    have := (allMoves_at m2 hj).2.2; omega
  have hc := fun k => cost_all (M := M) (fun i hi => by have := (allMoves_at m2 hi).2.2; omega) k
  have hz := fun k => sumP_zip (unitsL a) (unitsL b) k hl
  rw [hc, hc, ordB_iff hm]
  unfold apartL
  rw [← hz, ← hz]
  refine ⟨best_one p1 p2 (load_pw' a1) (load_pw' a2) hl (load_in a1) (load_in a2), best_two p1 p2 (load_pw' a1) (load_pw' a2) hl (load_in a1) (load_in a2), fun e hx => ?_, fun hx => two_same p1 p2 (load_pw' a1) (load_pw' a2) hl (load_in a1) (load_in a2) hx⟩
  have := two_more p1 p2 (load_pw' a1) (load_pw' a2) hl (load_in a1) (load_in a2) hx
  omega
theorem load_mass {l : List Atom} (h : valLoad l = 0) (p : Int) : massAt l p ≤ 30 := by
  unfold massAt
  split
  · next x hx =>
    have := isListB_mem (listErr_ok h).2 (List.mem_of_find?_eq_some hx)
    omega
  · omega
theorem leave_ge {M : List Move} (hm : ∀ i, (hi : i < M.length) → 0 ≤ M[i].m) {k : Nat} (hk : k < M.length) : M[k].m ≤ leaveTo M M[k].fr M.length := by
  have key : ∀ n, n ≤ M.length → (0 ≤ leaveTo M M[k].fr n ∧ (k < n → M[k].m ≤ leaveTo M M[k].fr n)) := fun n => by
    induction n with
    | zero => intro _; simp [leaveTo, sumR]
    | succ n ih =>
      intro hn
      obtain ⟨i1, i2⟩ := ih (by omega)
      have h1 := hm n (by omega)
      have e : leaveTo M M[k].fr (n + 1) = leaveTo M M[k].fr n + if M[n].fr = M[k].fr then M[n].m else 0 := by unfold leaveTo; simp only [sumR]; rw [mvK_at (by omega)]
      rw [e]
      by_cases c : n = k
      · subst c; rw [if_pos rfl]; omega
      · constructor
        · split <;> omega
        · intro h2; have := i2 (by omega); split <;> omega
  exact (key _ (Nat.le_refl _)).2 hk
/-- the ordered moves lead there, are ordered, and cost the least -/
theorem ordered_said {a b : List Atom} {M : List Move} (h : linePair a b = 0) (hp : pairsM M = (unitsL a).zip (unitsL b)) (hc : M.length ≤ 12) (hm : ∀ x ∈ M, 1 ≤ x.m) : chkErr a b M = 0 ∧ ordB M = true ∧ ∀ k, costTo M k M.length = apartL a b k := by
  obtain ⟨a1, a2, a3⟩ := linePair_ok h
  have hl := pair_len h
  have hm' : ∀ i, (hi : i < M.length) → 0 ≤ M[i].m := fun i hi => by have := hm _ (List.getElem_mem hi); omega
  have hcnt := fun p => pairs_count_all hm' p
  rw [hp, zip_fst hl, zip_snd hl] at hcnt
  have hbal : ∀ p, leaveTo M p M.length = massAt a p ∧ comeTo M p M.length = massAt b p := fun p => by
    have := (hcnt p).1; have := (hcnt p).2; have := load_count a1 p; have := load_count a2 p; omega
  have hin : ∀ i, (hi : i < M.length) → (M[i].fr, M[i].to) ∈ (unitsL a).zip (unitsL b) := fun i hi => by
    rw [← hp]
    unfold pairsM
    refine List.mem_flatMap.2 ⟨M[i], List.getElem_mem hi, List.mem_replicate.2 ⟨?_, rfl⟩⟩
    have := hm _ (List.getElem_mem hi); omega
  have hall : allMoves M = true := allMoves_yes fun j hj => by
    have h1 := List.of_mem_zip (hin j hj)
    have b1 := load_in a1 _ h1.1
    have b2 := load_in a2 _ h1.2
    have b3 := leave_ge hm' hj
    rw [(hbal _).1] at b3
    have b4 := load_mass a1 M[j].fr
    have b5 := hm _ (List.getElem_mem hj)
    unfold goodMove
    rw [mvK_at hj]
    simp only [Bool.and_eq_true, withinB_iff]
    omega
  refine ⟨chkErr_mk h ?_ ((balB_all a1 a2 hall).2 fun p => ?_), ?_, fun k => ?_⟩
  · unfold movesErr; rw [if_neg (by omega), if_pos hall]
  · unfold balAt; rw [(hbal p).1, (hbal p).2]; simp
  · rw [ordB_iff hm, hp]; exact zip_uncrossed (load_pw' a1) (load_pw' a2)
  · rw [cost_all hm', hp, sumP_zip _ _ _ hl]; rfl

/-! shifts and mirrors -/
def shiftL (l : List Atom) (d : Int) : List Atom := l.map fun x => ⟨x.p + d, x.m⟩
def mirrorL (l : List Atom) : List Atom := (l.map fun x => (⟨-x.p, x.m⟩ : Atom)).reverse
def shiftOk (l : List Atom) (d : Int) : Bool := l.all fun x => withinB (x.p + d) (-1000) 1000
def shiftErr (l : List Atom) (d : Int) : Int := if valLoad l ≠ 0 then valLoad l else if shiftOk l d then 0 else 1
def shiftV (l : List Atom) (d : Int) : List Atom := if shiftErr l d = 0 then shiftL l d else []
def mirrorV (l : List Atom) : List Atom := if valLoad l = 0 then mirrorL l else []
theorem shiftErr_ok {l : List Atom} {d : Int} (h : shiftErr l d = 0) : valLoad l = 0 ∧ shiftOk l d = true := by
  unfold shiftErr at h
  by_cases h1 : valLoad l = 0
  · rw [if_neg (by simpa using h1)] at h
    by_cases h2 : shiftOk l d = true
    · exact ⟨h1, h2⟩
    · rw [if_neg h2] at h; omega
  · rw [if_pos h1] at h; exact absurd h h1
/-- a list is a load just if its places ascend, and are places, and its masses are right -/
theorem valLoad_mk {l : List Atom} (h1 : l.length ≤ 6) (h2 : ∀ x ∈ l, (-1000 ≤ x.p ∧ x.p ≤ 1000) ∧ (1 ≤ x.m ∧ x.m ≤ 30)) (h3 : l.Pairwise (fun x y => x.p < y.p)) : valLoad l = 0 := by
  unfold valLoad listErr
  rw [if_neg (by omega), if_pos (isListB_yes fun j hj => ?_)]
  have hx := h2 _ (List.getElem_mem hj)
  unfold goodAt
  rw [atK_at hj]
  simp only [Bool.and_eq_true, Bool.or_eq_true, decide_eq_true_eq, withinB_iff]
  refine ⟨hx.1, hx.2, ?_⟩
  by_cases h0 : j = 0
  · exact .inl h0
  · right
    rw [atK_at (by omega)]
    rw [List.pairwise_iff_getElem] at h3
    exact h3 (j - 1) j (by omega) hj (by omega)
theorem valLoad_in {l : List Atom} (h : valLoad l = 0) : l.length ≤ 6 ∧ (∀ x ∈ l, (-1000 ≤ x.p ∧ x.p ≤ 1000) ∧ (1 ≤ x.m ∧ x.m ≤ 30)) ∧ l.Pairwise (fun x y => x.p < y.p) :=
  ⟨(listErr_ok h).1, fun _ hx => isListB_mem (listErr_ok h).2 hx, load_pw h⟩
theorem shift_valid {l : List Atom} {d : Int} (h : shiftErr l d = 0) : valLoad (shiftL l d) = 0 := by
  obtain ⟨h1, h2⟩ := shiftErr_ok h
  obtain ⟨a1, a2, a3⟩ := valLoad_in h1
  unfold shiftOk at h2
  rw [List.all_eq_true] at h2
  refine valLoad_mk (by simpa [shiftL] using a1) (fun x hx => ?_) ?_
  · unfold shiftL at hx
    obtain ⟨y, hy, rfl⟩ := List.mem_map.1 hx
    have := withinB_iff.1 (h2 y hy)
    exact ⟨this, (a2 y hy).2⟩
  · unfold shiftL
    rw [List.pairwise_map]
    exact a3.imp fun h => by simp only; omega
theorem shift_back (l : List Atom) (d : Int) : shiftL (shiftL l d) (-d) = l := by
  unfold shiftL
  rw [List.map_map]
  have : ((fun x : Atom => (⟨x.p + -d, x.m⟩ : Atom)) ∘ fun x => ⟨x.p + d, x.m⟩) = id := by
    funext x; simp only [Function.comp, id]; rw [show x.p + d + -d = x.p by omega]
  rw [this, List.map_id]
theorem shift_back_ok {l : List Atom} {d : Int} (h : shiftErr l d = 0) : shiftErr (shiftL l d) (-d) = 0 := by
  obtain ⟨h1, h2⟩ := shiftErr_ok h
  unfold shiftErr
  rw [if_neg (by simpa using shift_valid h), if_pos]
  unfold shiftOk
  rw [List.all_eq_true]
  intro x hx
  unfold shiftL at hx
  obtain ⟨y, hy, rfl⟩ := List.mem_map.1 hx
  have := (valLoad_in h1).2.1 y hy
  rw [withinB_iff]; simp only; omega
theorem mirror_valid {l : List Atom} (h : valLoad l = 0) : valLoad (mirrorL l) = 0 := by
  obtain ⟨a1, a2, a3⟩ := valLoad_in h
  refine valLoad_mk (by simpa [mirrorL] using a1) (fun x hx => ?_) ?_
  · unfold mirrorL at hx
    rw [List.mem_reverse] at hx
    obtain ⟨y, hy, rfl⟩ := List.mem_map.1 hx
    have := a2 y hy
    simp only; omega
  · unfold mirrorL
    rw [List.pairwise_reverse, List.pairwise_map]
    exact a3.imp fun h => by simp only; omega
theorem mirror_back (l : List Atom) : mirrorL (mirrorL l) = l := by
  unfold mirrorL
  rw [List.map_reverse, List.reverse_reverse, List.map_map]
  have : ((fun x : Atom => (⟨-x.p, x.m⟩ : Atom)) ∘ fun x => ⟨-x.p, x.m⟩) = id := by
    funext x; simp only [Function.comp, id]; rw [Int.neg_neg]
  rw [this, List.map_id]
theorem units_shift (l : List Atom) (d : Int) : unitsL (shiftL l d) = (unitsL l).map (· + d) := by
  unfold unitsL shiftL
  rw [List.flatMap_map, List.map_flatMap]
  congr 1
  funext x
  simp
theorem units_mirror (l : List Atom) : unitsL (mirrorL l) = ((unitsL l).map (fun x => -x)).reverse := by
  induction l with
  | nil => rfl
  | cons x l ih =>
    have e1 : mirrorL (x :: l) = mirrorL l ++ [⟨-x.p, x.m⟩] := by simp [mirrorL]
    have e2 : unitsL (x :: l) = List.replicate x.m.toNat x.p ++ unitsL l := by simp [unitsL]
    rw [e1, units_app, ih, e2, List.map_append, List.reverse_append]
    congr 1
    simp [unitsL]
theorem total_shift (l : List Atom) (d : Int) : totalL (shiftL l d) = totalL l := by
  unfold totalL shiftL; rw [List.map_map]; rfl
theorem total_mirror (l : List Atom) : totalL (mirrorL l) = totalL l := by
  unfold totalL mirrorL
  rw [List.map_reverse, perm_sum (List.reverse_perm _), List.map_map]; rfl
theorem apart_units (a b : List Atom) (k : Int) (h : (unitsL a).length = (unitsL b).length) : apartL a b k = sumP ((unitsL a).zip (unitsL b)) k := by rw [sumP_zip _ _ _ h]; rfl
theorem priceV_move (x y d k : Int) : priceV (x + d) (y + d) k = priceV x y k ∧ priceV (-x) (-y) k = priceV x y k := by
  have e1 : distI (x + d) (y + d) = distI x y := by unfold distI; split <;> split <;> omega
  have e2 : distI (-x) (-y) = distI x y := by unfold distI; split <;> split <;> omega
  unfold priceV
  rw [e1, e2]
  exact ⟨rfl, rfl⟩
theorem apart_shift {a b : List Atom} (h : (unitsL a).length = (unitsL b).length) (d k : Int) : apartL (shiftL a d) (shiftL b d) k = apartL a b k := by
  rw [apart_units _ _ _ (by rw [units_shift, units_shift]; simpa using h), apart_units _ _ _ h, units_shift, units_shift, List.zip_map]
  unfold sumP
  rw [List.map_map]
  congr 2
  funext q
  exact (priceV_move _ _ _ _).1
theorem zip_reverse' {u v : List Int} (h : u.length = v.length) : u.reverse.zip v.reverse = (u.zip v).reverse := by
  refine List.ext_getElem (by simp) fun i h1 h2 => ?_
  simp only [List.length_zip, List.length_reverse] at h1 h2
  simp only [List.getElem_zip, List.getElem_reverse, List.length_zip, Prod.mk.injEq]
  constructor
  · congr 1; omega
  · congr 1; omega
theorem apart_mirror {a b : List Atom} (h : (unitsL a).length = (unitsL b).length) (k : Int) : apartL (mirrorL a) (mirrorL b) k = apartL a b k := by
  rw [apart_units _ _ _ (by rw [units_mirror, units_mirror]; simpa using h), apart_units _ _ _ h, units_mirror, units_mirror, zip_reverse' (by simpa using h), List.zip_map]
  unfold sumP
  rw [List.map_reverse, perm_sum (List.reverse_perm _), List.map_map]
  congr 2
  funext q
  exact (priceV_move _ _ 0 _).2
theorem apart_far {a : List Atom} (ha : Fine a) (d : Int) : apartL a (shiftL a d) 1 = totalL a * distI 0 d := by
  rw [apart_units _ _ _ (by rw [units_shift]; simp), units_shift, ← units_len ha]
  generalize unitsL a = u
  induction u with
  | nil => simp [sumP]
  | cons x u ih =>
    have e : sumP ((x :: u).zip ((x :: u).map (· + d))) 1 = priceV x (x + d) 1 + sumP (u.zip (u.map (· + d))) 1 := by simp [sumP]
    have e2 : priceV x (x + d) 1 = distI 0 d := by unfold priceV distI; simp only [show ¬ (1 : Int) = 2 by omega, if_false]; split <;> split <;> omega
    rw [e, ih, e2, List.length_cons, show ((u.length + 1 : Nat) : Int) = (u.length : Int) + 1 by omega, Int.add_mul, Int.one_mul]
    omega

/-! joins -/
def joinL (a b : List Atom) : List Atom := (placesL2 a b).map fun p => ⟨p, massAt a p + massAt b p⟩
def joinErr (a b : List Atom) : Int := if bothErr a b ≠ 0 then bothErr a b else if 6 < (placesL2 a b).length then 3 else if valLoad (joinL a b) ≠ 0 then 1 else 0
def joinV (a b : List Atom) : List Atom := if joinErr a b = 0 then joinL a b else []
theorem joinErr_ok {a b : List Atom} (h : joinErr a b = 0) : valLoad a = 0 ∧ valLoad b = 0 ∧ (placesL2 a b).length ≤ 6 ∧ valLoad (joinL a b) = 0 := by
  unfold joinErr at h
  by_cases h1 : bothErr a b = 0
  · rw [if_neg (by simpa using h1)] at h
    by_cases h2 : 6 < (placesL2 a b).length
    · rw [if_pos h2] at h; omega
    · rw [if_neg h2] at h
      by_cases h3 : valLoad (joinL a b) = 0
      · obtain ⟨x, y⟩ := bothErr_ok h1
        exact ⟨x, y, by omega, h3⟩
      · rw [if_pos h3] at h; omega
  · rw [if_pos h1] at h; exact absurd h h1
theorem join_total {a b : List Atom} (ha : valLoad a = 0) (hb : valLoad b = 0) : totalL (joinL a b) = totalL a + totalL b := by
  unfold totalL joinL
  rw [List.map_map]
  have := places_sum (a := a) (b := b) (f := fun p => massAt a p + massAt b p) (fun p hp => by have := onPlace_no (fine_load ha) (fine_load hb) hp; omega) 2001
  unfold placesL2
  have e : ((fun x : Atom => x.m) ∘ fun p => (⟨p, massAt a p + massAt b p⟩ : Atom)) = fun p => massAt a p + massAt b p := rfl
  rw [e, this, sumR_add, mass_sum ha, mass_sum hb, bel_high ha (by omega), bel_high hb (by omega)]
  rfl
/-! means -/
/-- the sum of f over the units, atom by atom -/
def momTo (f : Int → Int) (l : List Atom) (n : Nat) : Int := sumR (fun i => f (atK l i).p * (atK l i).m) n
theorem units_sum {l : List Atom} (hm : ∀ i, (hi : i < l.length) → 0 ≤ l[i].m) (f : Int → Int) : ∀ n, n ≤ l.length → ((unitsL (l.take n)).map f).sum = momTo f l n
  | 0, _ => by simp [unitsL, momTo, sumR]
  | n + 1, hn => by
    have ih := units_sum hm f n (by omega)
    have h1 := hm n (by omega)
    rw [List.take_succ_eq_append_getElem (by omega), units_app, List.map_append, List.sum_append, ih]
    unfold momTo
    simp only [sumR]
    rw [atK_at (by omega)]
    congr 1
    have e : unitsL [l[n]] = List.replicate l[n].m.toNat l[n].p := by simp [unitsL]
    rw [e, List.map_replicate]
    have : ∀ k : Nat, (List.replicate k (f l[n].p)).sum = k * f l[n].p := fun k => by
      induction k with
      | zero => simp
      | succ k ihk => rw [List.replicate_succ, List.sum_cons, ihk, show ((k + 1 : Nat) : Int) = (k : Int) + 1 by omega, Int.add_mul, Int.one_mul]; omega
    rw [this, show ((l[n].m.toNat : Nat) : Int) = l[n].m by omega, Int.mul_comm]
theorem units_sum_all {l : List Atom} (hm : ∀ i, (hi : i < l.length) → 0 ≤ l[i].m) (f : Int → Int) : ((unitsL l).map f).sum = momTo f l l.length := by
  have := units_sum hm f l.length (Nat.le_refl _)
  rwa [List.take_length] at this
/-- the squares of the differences of the first n numbers -/
def sqTo2 (u : List Int) (i n : Nat) : Int := sumR (fun k => priceV (gi u i) (gi u k) 2) n
def sprTo (u : List Int) (n : Nat) : Int := sumR (fun i => sqTo2 u i i) n
def s1To (u : List Int) (n : Nat) : Int := sumR (gi u) n
def s2To (u : List Int) (n : Nat) : Int := sumR (fun i => gi u i * gi u i) n
theorem sqTo2_eq (u : List Int) (i : Nat) : ∀ n, sqTo2 u i n = n * (gi u i * gi u i) - 2 * gi u i * s1To u n + s2To u n
  | 0 => by simp [sqTo2, s1To, s2To, sumR]
  | n + 1 => by
    have ih := sqTo2_eq u i n
    have e : sqTo2 u i (n + 1) = sqTo2 u i n + priceV (gi u i) (gi u n) 2 := rfl
    rw [e, ih, priceV_two]
    simp only [s1To, s2To, sumR]
    generalize sumR (gi u) n = A
    generalize sumR (fun i => gi u i * gi u i) n = B
    rw [show ((n + 1 : Nat) : Int) = (n : Int) + 1 by omega]
    generalize gi u i = x
    generalize gi u n = y
    grind
theorem sprTo_eq (u : List Int) : ∀ n, sprTo u n = n * s2To u n - s1To u n * s1To u n
  | 0 => by simp [sprTo, s1To, s2To, sumR]
  | n + 1 => by
    have ih := sprTo_eq u n
    have e : sprTo u (n + 1) = sprTo u n + sqTo2 u n n := rfl
    rw [e, ih, sqTo2_eq]
    simp only [s1To, s2To, sumR]
    generalize sumR (gi u) n = A
    generalize sumR (fun i => gi u i * gi u i) n = B
    rw [show ((n + 1 : Nat) : Int) = (n : Int) + 1 by omega]
    generalize gi u n = y
    grind
theorem sumR_list (u : List Int) (f : Int → Int) : sumR (fun i => f (gi u i)) u.length = (u.map f).sum := by
  induction u with
  | nil => rfl
  | cons x u ih =>
    have e : ∀ n, sumR (fun i => f (gi (x :: u) i)) (n + 1) = f x + sumR (fun i => f (gi u i)) n := fun n => by
      induction n with
      | zero => simp [sumR, gi]
      | succ n ihn =>
        have e1 : sumR (fun i => f (gi (x :: u) i)) (n + 1 + 1) = sumR (fun i => f (gi (x :: u) i)) (n + 1) + f (gi (x :: u) (n + 1)) := rfl
        have e2 : gi (x :: u) (n + 1) = gi u n := by simp [gi]
        rw [e1, ihn, e2]
        simp only [sumR]
        omega
    rw [List.length_cons, e, ih]; simp
end Go.Proofs.Ytgnjaapjaglleaa
