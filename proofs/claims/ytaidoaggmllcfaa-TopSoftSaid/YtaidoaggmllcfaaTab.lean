/- Tables of ints: plain words, and how a table of the call's own lies. No program in sight. -/
import Derived.Test.YtaidoaggmllcfaaBlk
namespace Go.Proofs.Ytaidoaggmllcfaa
open Go.RowKit

abbrev Tbl := List (List Int)
def gi (l : List Int) (i : Nat) : Int := l[i]?.getD 0
def row (t : Tbl) (i : Nat) : List Int := t[i]?.getD []
def tg (t : Tbl) (i j : Nat) : Int := gi (row t i) j
theorem gi_at (l : List Int) (i : Nat) : gi l i = l[i]?.getD 0 := rfl
theorem gi_get {l : List Int} {i : Nat} (h : i < l.length) : gi l i = l[i] := by simp [gi, h]
theorem row_at {t : Tbl} {i : Nat} (h : i < t.length) : row t i = t[i] := by simp [row, h]
def smTo (l : List Int) : Nat → Int
  | 0 => 0
  | k + 1 => smTo l k + gi l k
def sm (l : List Int) : Int := smTo l l.length
theorem smTo_succ (l : List Int) (k : Nat) : smTo l (k + 1) = smTo l k + gi l k := rfl
theorem smTo_bd {l : List Int} {M : Int} (h : ∀ j, j < l.length → 0 ≤ gi l j ∧ gi l j ≤ M) : ∀ k, k ≤ l.length → 0 ≤ smTo l k ∧ smTo l k ≤ k * M
  | 0, _ => by simp [smTo]
  | k + 1, hk => by
    have h1 := smTo_bd h k (by omega)
    have h2 := h k (by omega)
    have e : ((k + 1 : Nat) : Int) * M = k * M + M := by rw [show ((k + 1 : Nat) : Int) = (k : Int) + 1 by omega, Int.add_mul, Int.one_mul]
    rw [smTo_succ]
    omega
theorem smTo_bd2 {l : List Int} {M : Int} (h : ∀ j, j < l.length → -M ≤ gi l j ∧ gi l j ≤ M) : ∀ k, k ≤ l.length → -(k * M) ≤ smTo l k ∧ smTo l k ≤ k * M
  | 0, _ => by simp [smTo]
  | k + 1, hk => by
    have h1 := smTo_bd2 h k (by omega)
    have h2 := h k (by omega)
    have e : ((k + 1 : Nat) : Int) * M = k * M + M := by rw [show ((k + 1 : Nat) : Int) = (k : Int) + 1 by omega, Int.add_mul, Int.one_mul]
    rw [smTo_succ]
    omega
theorem smTo_eq {l m : List Int} : ∀ {k : Nat}, (∀ j, j < k → gi l j = gi m j) → smTo l k = smTo m k
  | 0, _ => rfl
  | k + 1, h => by rw [smTo_succ, smTo_succ, smTo_eq (fun j hj => h j (by omega)), h k (by omega)]
/-- the sum of a column, of the first k rows -/
def csTo (t : Tbl) (j : Nat) : Nat → Int
  | 0 => 0
  | k + 1 => csTo t j k + tg t k j
def cs (t : Tbl) (j : Nat) : Int := csTo t j t.length

/-- all numbers of a list are from lo to hi -/
def okRow (lo hi : Int) (l : List Int) : Bool := l.all fun x => withinB x lo hi
theorem okRow_no {lo hi : Int} {l : List Int} {k : Nat} (hk : k < l.length) (h : withinB (gi l k) lo hi = false) : okRow lo hi l = false := by
  unfold okRow; rw [List.all_eq_false]; exact ⟨l[k], List.getElem_mem hk, by rw [gi_get hk] at h; simp [h]⟩
theorem okRow_yes {lo hi : Int} {l : List Int} (h : ∀ j, j < l.length → withinB (gi l j) lo hi = true) : okRow lo hi l = true := by
  unfold okRow; rw [List.all_eq_true]
  intro x hx
  obtain ⟨j, hj, rfl⟩ := List.getElem_of_mem hx
  have := h j hj
  rwa [gi_get hj] at this
theorem okRow_at {lo hi : Int} {l : List Int} (h : okRow lo hi l = true) {k : Nat} (hk : k < l.length) : lo ≤ gi l k ∧ gi l k ≤ hi := by
  unfold okRow at h; rw [List.all_eq_true] at h
  have := h l[k] (List.getElem_mem hk)
  rw [gi_get hk]; exact withinB_iff.1 this
/-- all rows have m numbers from lo to hi -/
def rowOk (m : Nat) (lo hi : Int) (l : List Int) : Bool := decide (l.length = m) && okRow lo hi l
def rowsB (m : Nat) (lo hi : Int) (t : Tbl) : Bool := t.all (rowOk m lo hi)
theorem rowsB_no {m : Nat} {lo hi : Int} {t : Tbl} {k : Nat} (hk : k < t.length) (h : rowOk m lo hi t[k] = false) : rowsB m lo hi t = false := by
  unfold rowsB; rw [List.all_eq_false]; exact ⟨t[k], List.getElem_mem hk, by simp [h]⟩
theorem rowsB_yes {m : Nat} {lo hi : Int} {t : Tbl} (h : ∀ j, (hj : j < t.length) → rowOk m lo hi t[j] = true) : rowsB m lo hi t = true := by
  unfold rowsB; rw [List.all_eq_true]
  intro x hx
  obtain ⟨j, hj, rfl⟩ := List.getElem_of_mem hx
  exact h j hj
theorem rowsB_at {m : Nat} {lo hi : Int} {t : Tbl} (h : rowsB m lo hi t = true) {k : Nat} (hk : k < t.length) : t[k].length = m ∧ okRow lo hi t[k] = true := by
  unfold rowsB at h; rw [List.all_eq_true] at h
  have := h t[k] (List.getElem_mem hk)
  simpa [rowOk] using this
theorem rowOk_len {m : Nat} {lo hi : Int} {l : List Int} (h : l.length ≠ m) : rowOk m lo hi l = false := by simp [rowOk, h]
theorem rowOk_of {m : Nat} {lo hi : Int} {l : List Int} (h : l.length = m) : rowOk m lo hi l = okRow lo hi l := by simp [rowOk, h]
/-- a table of 1 to 5 rows and columns with numbers from lo to hi -/
def tabB (lo hi : Int) (t : Tbl) : Bool := decide (1 ≤ t.length) && (decide (t.length ≤ 5) && (decide (1 ≤ (row t 0).length) && (decide ((row t 0).length ≤ 5) && rowsB (row t 0).length lo hi t)))
/-- n rows of m numbers from lo to hi -/
structure TOk (n m : Nat) (lo hi : Int) (t : Tbl) : Prop where
  n1 : 1 ≤ n
  n5 : n ≤ 5
  m1 : 1 ≤ m
  m5 : m ≤ 5
  len : t.length = n
  cols : ∀ i, i < n → (row t i).length = m
  bd : ∀ i j, i < n → j < m → lo ≤ tg t i j ∧ tg t i j ≤ hi
theorem tabB_ok {lo hi : Int} {t : Tbl} (h : tabB lo hi t = true) : TOk t.length (row t 0).length lo hi t := by
  simp only [tabB, Bool.and_eq_true, decide_eq_true_eq] at h
  obtain ⟨h1, h2, h3, h4, h5⟩ := h
  refine ⟨h1, h2, h3, h4, rfl, fun i hi => ?_, fun i j hi hj => ?_⟩
  · rw [row_at hi]; exact (rowsB_at h5 hi).1
  · have := rowsB_at h5 hi
    have h6 := okRow_at this.2 (k := j) (by omega)
    unfold tg; rw [row_at hi]; exact h6
theorem tabB_of {n m : Nat} {lo hi : Int} {t : Tbl} (h : TOk n m lo hi t) : tabB lo hi t = true := by
  have h0 := h.cols 0 (by have := h.n1; omega)
  have := h.n1; have := h.n5; have := h.m1; have := h.m5; have := h.len
  simp only [tabB, Bool.and_eq_true, decide_eq_true_eq]
  refine ⟨by omega, by omega, by omega, by omega, rowsB_yes fun j hj => ?_⟩
  have hc := h.cols j (by omega)
  rw [row_at hj] at hc
  rw [rowOk_of (by omega)]
  refine okRow_yes fun k hk => withinB_iff.2 ?_
  have := h.bd j k (by omega) (by omega)
  unfold tg at this; rw [row_at hj] at this; exact this
theorem TOk.weak {n m : Nat} {lo hi hi' : Int} {t : Tbl} (h : TOk n m lo hi t) (hh : hi ≤ hi') : TOk n m lo hi' t :=
  ⟨h.n1, h.n5, h.m1, h.m5, h.len, h.cols, fun i j a b => by have := h.bd i j a b; omega⟩

/-- a table told place by place -/
def mk (n m : Nat) (f : Nat → Nat → Int) : Tbl := (List.range n).map fun i => (List.range m).map (f i)
theorem mk_len (n m : Nat) (f : Nat → Nat → Int) : (mk n m f).length = n := by simp [mk]
theorem row_mk {n m i : Nat} (f : Nat → Nat → Int) (h : i < n) : row (mk n m f) i = (List.range m).map (f i) := by simp [row, mk, h]
theorem mk_cols {n m i : Nat} (f : Nat → Nat → Int) (h : i < n) : (row (mk n m f) i).length = m := by rw [row_mk f h]; simp
theorem tg_mk {n m i j : Nat} (f : Nat → Nat → Int) (h : i < n) (h2 : j < m) : tg (mk n m f) i j = f i j := by unfold tg; rw [row_mk f h]; simp [gi, h2]
theorem mk_succ (n m : Nat) (f : Nat → Nat → Int) : mk (n + 1) m f = mk n m f ++ [(List.range m).map (f n)] := by simp [mk, List.range_succ]
theorem map_succ (m : Nat) (f : Nat → Int) : (List.range (m + 1)).map f = (List.range m).map f ++ [f m] := by simp [List.range_succ]
theorem list_ext_gi {l m : List Int} (h : l.length = m.length) (hh : ∀ i, i < l.length → gi l i = gi m i) : l = m := by
  apply List.ext_getElem h
  intro i h1 h2
  have := hh i h1
  rwa [gi_get h1, gi_get h2] at this
theorem tbl_ext {t u : Tbl} (h : t.length = u.length) (hc : ∀ i, i < t.length → (row t i).length = (row u i).length) (hh : ∀ i j, i < t.length → j < (row t i).length → tg t i j = tg u i j) : t = u := by
  apply List.ext_getElem h
  intro i h1 h2
  have e1 := hc i h1
  rw [row_at h1, row_at h2] at e1
  refine list_ext_gi e1 fun j hj => ?_
  have := hh i j h1 (by rw [row_at h1]; exact hj)
  unfold tg at this
  rwa [row_at h1, row_at h2] at this
theorem mk_eq {n m : Nat} {f g : Nat → Nat → Int} (h : ∀ i j, i < n → j < m → f i j = g i j) : mk n m f = mk n m g := by
  refine tbl_ext (by simp [mk_len]) (fun i hi => ?_) (fun i j hi hj => ?_)
  · rw [mk_len] at hi; rw [mk_cols f hi, mk_cols g hi]
  · rw [mk_len] at hi; rw [mk_cols f hi] at hj; rw [tg_mk f hi hj, tg_mk g hi hj, h i j hi hj]
theorem mk_of {n m : Nat} {t : Tbl} (h1 : t.length = n) (h2 : ∀ i, i < n → (row t i).length = m) : mk n m (tg t) = t := by
  refine tbl_ext (by rw [mk_len, h1]) (fun i hi => ?_) (fun i j hi hj => ?_)
  · rw [mk_len] at hi; rw [mk_cols _ hi, h2 i hi]
  · rw [mk_len] at hi; rw [mk_cols _ hi] at hj; rw [tg_mk _ hi hj]
/-- one place of a table changed -/
def setT (t : Tbl) (i j : Nat) (x : Int) : Tbl := t.set i ((row t i).set j x)
theorem setT_len (t : Tbl) (i j : Nat) (x : Int) : (setT t i j x).length = t.length := by simp [setT]
theorem row_setT (t : Tbl) {i j k : Nat} (x : Int) (hi : i < t.length) : row (setT t i j x) k = if k = i then (row t i).set j x else row t k := by
  unfold setT row
  by_cases h : k = i
  · subst h; simp [hi]
  · rw [if_neg h, List.getElem?_set_ne (by omega)]
theorem cols_setT (t : Tbl) {i j k : Nat} (x : Int) (hi : i < t.length) : (row (setT t i j x) k).length = (row t k).length := by
  rw [row_setT t x hi]; split
  · next h => subst h; simp
  · rfl
theorem tg_setT (t : Tbl) {i j k q : Nat} (x : Int) (hi : i < t.length) (hj : j < (row t i).length) : tg (setT t i j x) k q = if k = i ∧ q = j then x else tg t k q := by
  unfold tg
  rw [row_setT t x hi]
  by_cases h : k = i
  · subst h
    rw [if_pos rfl]
    unfold gi
    by_cases h2 : q = j
    · subst h2; simp [hj]
    · rw [List.getElem?_set_ne (by omega), if_neg (by simp [h2])]
  · rw [if_neg h, if_neg (by simp [h])]

/-! ### How a table of the call's own lies -/
def rv (t : Tbl) (A : Nat → Option Addr) (C : Nat → Nat) : List Value := (List.range t.length).map fun i => .slice (A i) (row t i).length (C i)
theorem rv_len (t : Tbl) (A : Nat → Option Addr) (C : Nat → Nat) : (rv t A C).length = t.length := by simp [rv]
theorem rv_at {t : Tbl} {A : Nat → Option Addr} {C : Nat → Nat} {i : Nat} (h : i < t.length) : (rv t A C)[i]? = some (.slice (A i) (row t i).length (C i)) := by simp [rv, h]
/-- a row of a table: where its numbers lie -/
def RowAt (W : World) (B U : Nat) (v : Value) (A : Option Addr) (g o : Nat) (l : List Int) : Prop :=
  0 < l.length → A = some ⟨g, o, none⟩ ∧ B ≤ g ∧ g < U ∧ some g ≠ v.ownBlock ∧ ∀ j, j < l.length → W.cell? ⟨g, o + j, none⟩ = some (.int .i64 (gi l j)) ∧ W.frozen? ⟨g, o + j, none⟩ = false
def Apart (g o n g' o' n' : Nat) : Prop := g ≠ g' ∨ o + n ≤ o' ∨ o' + n' ≤ o
structure OwnL (T : TypeId) (W : World) (B U : Nat) (v : Value) (A : Nat → Option Addr) (C G O : Nat → Nat) (t : Tbl) : Prop where
  upto : U ≤ W.heap.size
  own : W.ownsRow B T 1 v t.length (rv t A C)
  blk : ∀ g, v.ownBlock = some g → g < U
  rows : ∀ i, i < t.length → RowAt W B U v (A i) (G i) (O i) (row t i)
  apart : ∀ i k, i < t.length → k < t.length → i ≠ k → 0 < (row t i).length → 0 < (row t k).length → Apart (G i) (O i) (row t i).length (G k) (O k) (row t k).length
/-- a table of the call's own, its blocks from B up to U -/
def OwnT (T : TypeId) (W : World) (B U : Nat) (v : Value) (t : Tbl) : Prop := ∃ A C G O, OwnL T W B U v A C G O t

section
variable {T T0 : TypeId} {W W' X Y : World} {B U : Nat} {v v' : Value} {A : Nat → Option Addr} {C G O : Nat → Nat} {t : Tbl} {l : List Int}
theorem OwnT.nil (T : TypeId) (W : World) (B : Nat) : OwnT T W B W.heap.size (.slice none 0 0) [] :=
  ⟨fun _ => none, fun _ => 0, fun _ => 0, fun _ => 0, Nat.le_refl _, World.ownsRow_nil _ _ _ _, fun g hg => by simp [Value.ownBlock] at hg, fun i hi => by simp at hi, fun i k hi => by simp at hi⟩
theorem RowAt.ext {A : Option Addr} {g o : Nat} (h : RowAt W B U v A g o l) (hU : U ≤ W.heap.size) (hE : Ext W W') : RowAt W' B U v A g o l := fun h0 => by
  obtain ⟨h1, h2, h3, h4, h5⟩ := h h0
  exact ⟨h1, h2, h3, h4, fun j hj => ⟨(hE.cell' (by omega)).trans (h5 j hj).1, (hE.frozen (p := ⟨g, o + j, none⟩) (by show g < _; omega)).trans (h5 j hj).2⟩⟩
theorem OwnL.ext (h : OwnL T W B U v A C G O t) (hE : Ext W W') : OwnL T W' B U v A C G O t :=
  ⟨Nat.le_trans h.upto hE.size, row_ext h.own hE, h.blk, fun i hi => (h.rows i hi).ext h.upto hE, h.apart⟩
theorem OwnT.ext (h : OwnT T W B U v t) (hE : Ext W W') : OwnT T W' B U v t := by obtain ⟨A, C, G, O, h⟩ := h; exact ⟨A, C, G, O, h.ext hE⟩
theorem OwnL.up (h : OwnL T W B U v A C G O t) {U' : Nat} (hU : U ≤ U') (hU' : U' ≤ W.heap.size) : OwnL T W B U' v A C G O t :=
  ⟨hU', h.own, fun g hg => Nat.lt_of_lt_of_le (h.blk g hg) hU, fun i hi h0 => by obtain ⟨h1, h2, h3, h4, h5⟩ := h.rows i hi h0; exact ⟨h1, h2, by omega, h4, h5⟩, h.apart⟩
theorem OwnT.up (h : OwnT T W B U v t) {U' : Nat} (hU : U ≤ U') (hU' : U' ≤ W.heap.size) : OwnT T W B U' v t := by obtain ⟨A, C, G, O, h⟩ := h; exact ⟨A, C, G, O, h.up hU hU'⟩
theorem OwnT.low (h : OwnT T W B U v t) {B' : Nat} (hB : B' ≤ B) : OwnT T W B' U v t := by
  obtain ⟨A, C, G, O, h⟩ := h
  exact ⟨A, C, G, O, h.upto, row_base h.own hB, h.blk, fun i hi h0 => by obtain ⟨h1, h2, h3, h4, h5⟩ := h.rows i hi h0; exact ⟨h1, by omega, h3, h4, h5⟩, h.apart⟩
theorem OwnL.row_ints (h : OwnL T W B U v A C G O t) {i : Nat} (hi : i < t.length) : Ints W (A i) (row t i) := fun j hj => by
  obtain ⟨h1, h2, h3, h4, h5⟩ := h.rows i hi (by omega)
  exact ⟨G i, O i, h1, Nat.lt_of_lt_of_le h3 h.upto, (h5 j hj).1⟩
/-- where the slice of a row lies -/
theorem OwnL.top (h : OwnL T W B U v A C G O t) {i : Nat} (hi : i < t.length) : ∃ g cap, v = .slice (some ⟨g, 0, none⟩) t.length cap ∧ B ≤ g ∧ g < U ∧ W.cell? ⟨g, i, none⟩ = some (.slice (A i) (row t i).length (C i)) := by
  obtain ⟨g, cap, rfl, hb, hg⟩ := ownsRow_form h.own (by omega)
  exact ⟨g, cap, rfl, hb, h.blk g rfl, row_cell h.own (rv_at hi)⟩
/-- one place stored -/
theorem OwnL.store (h : OwnL T W B U v A C G O t) {i j : Nat} (hi : i < t.length) (hj : j < (row t i).length) (x : Int) : OwnL T (W.setCell ⟨G i, O i + j, none⟩ (.int .i64 x)) B U v A C G O (setT t i j x) := by
  obtain ⟨h1, h2, h3, h4, h5⟩ := h.rows i hi (by omega)
  have hlt : G i < W.heap.size := Nat.lt_of_lt_of_le h3 h.upto
  have hrv : rv (setT t i j x) A C = rv t A C := by
    unfold rv; rw [setT_len]
    apply List.map_congr_left
    intro k _
    rw [cols_setT t x hi]
  have hfz : ∀ p : Addr, (W.setCell ⟨G i, O i + j, none⟩ (.int .i64 x)).frozen? p = W.frozen? p := fun p => World.frozen?_setCell _ _ _ _
  refine ⟨by simpa using h.upto, ?_, h.blk, fun k hk h0 => ?_, fun k q hk hq hne hk0 hq0 => ?_⟩
  · rw [setT_len, hrv]
    exact row_set_other h.own h4 _ _
  · rw [setT_len] at hk
    rw [cols_setT t x hi] at h0
    obtain ⟨k1, k2, k3, k4, k5⟩ := h.rows k hk h0
    refine ⟨k1, k2, k3, k4, fun q hq => ?_⟩
    rw [cols_setT t x hi] at hq
    refine ⟨?_, by rw [hfz]; exact (k5 q hq).2⟩
    have hv := tg_setT t (i := i) (j := j) (k := k) (q := q) x hi hj
    show _ = some (Value.int .i64 (tg (setT t i j x) k q))
    rw [hv]
    by_cases e : k = i ∧ q = j
    · obtain ⟨rfl, rfl⟩ := e
      rw [if_pos ⟨rfl, rfl⟩]
      exact World.cell?_setCell_same W _ _ (k5 q hq).1
    · rw [if_neg e]
      refine (World.cell?_setCell_other W _ _ _ (fun he => ?_)).trans (k5 q hq).1
      injection he with e1 e2
      by_cases hki : k = i
      · subst hki; exact e ⟨rfl, by omega⟩
      · rcases h.apart k i hk hi hki h0 (by omega) with a | a | a
        · exact a e1.symm
        · omega
        · omega
  · rw [setT_len] at hk hq
    rw [cols_setT t x hi] at hk0 hq0 ⊢
    rw [cols_setT t x hi]
    exact h.apart k q hk hq hne hk0 hq0
end
end Go.Proofs.Ytaidoaggmllcfaa
