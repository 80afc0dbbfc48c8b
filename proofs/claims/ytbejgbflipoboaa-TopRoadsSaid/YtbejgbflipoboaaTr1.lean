/- Texts of transport, taken over from the seat of layer 6: Tab Tab2 Tab3 TB TC. -/
import Derived.Test.YtbejgbflipoboaaP2
import Derived.Test.YtbejgbflipoboaaP4
namespace Go.Proofs.Ytbejgbflipoboaa
open Go.RowKit
theorem PartT.le {n m : Nat} {c : Nat → Nat → Int} {a b : Nat → Int} {P : Nat → Nat → Int} (h : PartT n m c a b P) {i j : Nat} (hi : i < n) (hj : j < m) : P i j ≤ a i := by
  have := sumN_term (f := P i) (n := m) (fun q hq => h.pos i q hi hq) hj
  have := h.rows i hi
  omega
end Go.Proofs.Ytbejgbflipoboaa
namespace Go.Proofs.Ytbejgbflipoboaa.Tr
open Go.RowKit
attribute [local go_sem] GW.cell
def Table (w : World) (a : Option Addr) (l : List (List Int)) : Prop :=
  ∀ j, (hj : j < l.length) → ∃ b off a' c', a = some ⟨b, off, none⟩ ∧ b < w.heap.size ∧ w.cell? ⟨b, off + j, none⟩ = some (.slice a' l[j].length c') ∧ Ints w a' l[j]
theorem Table.ext {w w' : World} {a : Option Addr} {l : List (List Int)} (h : Table w a l) (hE : Ext w w') : Table w' a l := fun j hj => by
  obtain ⟨b, off, a', c', ha, hb, h1, h2⟩ := h j hj
  exact ⟨b, off, a', c', ha, Nat.lt_of_lt_of_le hb hE.size, (hE.cell' hb).trans h1, h2.ext hE⟩
/- Tables of ints: plain words, and how a table of the call's own lies. No program in sight. -/

abbrev Tbl := List (List Int)
def row (t : Tbl) (i : Nat) : List Int := t[i]?.getD []
def tg (t : Tbl) (i j : Nat) : Int := gi (row t i) j
theorem gi_at (l : List Int) (i : Nat) : gi l i = l[i]?.getD 0 := rfl
theorem gi_get {l : List Int} {i : Nat} (h : i < l.length) : gi l i = l[i] := by simp [gi, h]
theorem row_at {t : Tbl} {i : Nat} (h : i < t.length) : row t i = t[i] := by simp [row, h]
def smTo (l : List Int) : Nat → Int
  | 0 => 0
  | k + 1 => smTo l k + gi l k
def sm (l : List Int) : Int := smTo l l.length
theorem smTo_succ (l : List Int) (k : Nat) : smTo l (k + 1) = smTo l k + gi l k := rfl
theorem smTo_bd {l : List Int} {M : Int} (h : ∀ j, j < l.length → 0 ≤ gi l j ∧ gi l j ≤ M) : ∀ k, k ≤ l.length → 0 ≤ smTo l k ∧ smTo l k ≤ k * M
  | 0, _ => by simp [smTo]
  | k + 1, hk => by
    have h1 := smTo_bd h k (by omega)
    have h2 := h k (by omega)
    have e : ((k + 1 : Nat) : Int) * M = k * M + M := by rw [show ((k + 1 : Nat) : Int) = (k : Int) + 1 by omega, Int.add_mul, Int.one_mul]
    rw [smTo_succ]
    omega
theorem smTo_bd2 {l : List Int} {M : Int} (h : ∀ j, j < l.length → -M ≤ gi l j ∧ gi l j ≤ M) : ∀ k, k ≤ l.length → -(k * M) ≤ smTo l k ∧ smTo l k ≤ k * M
  | 0, _ => by simp [smTo]
  | k + 1, hk => by
    have h1 := smTo_bd2 h k (by omega)
    have h2 := h k (by omega)
    have e : ((k + 1 : Nat) : Int) * M = k * M + M := by rw [show ((k + 1 : Nat) : Int) = (k : Int) + 1 by omega, Int.add_mul, Int.one_mul]
    rw [smTo_succ]
    omega
theorem smTo_eq {l m : List Int} : ∀ {k : Nat}, (∀ j, j < k → gi l j = gi m j) → smTo l k = smTo m k
  | 0, _ => rfl
  | k + 1, h => by rw [smTo_succ, smTo_succ, smTo_eq (fun j hj => h j (by omega)), h k (by omega)]
/-- the sum of a column, of the first k rows -/
def csTo (t : Tbl) (j : Nat) : Nat → Int
  | 0 => 0
  | k + 1 => csTo t j k + tg t k j
def cs (t : Tbl) (j : Nat) : Int := csTo t j t.length

/-- all numbers of a list are from lo to hi -/
def okRow (lo hi : Int) (l : List Int) : Bool := l.all fun x => withinB x lo hi
theorem okRow_no {lo hi : Int} {l : List Int} {k : Nat} (hk : k < l.length) (h : withinB (gi l k) lo hi = false) : okRow lo hi l = false := by
  unfold okRow; rw [List.all_eq_false]; exact ⟨l[k], List.getElem_mem hk, by rw [gi_get hk] at h; simp [h]⟩
theorem okRow_yes {lo hi : Int} {l : List Int} (h : ∀ j, j < l.length → withinB (gi l j) lo hi = true) : okRow lo hi l = true := by
  unfold okRow; rw [List.all_eq_true]
  intro x hx
  obtain ⟨j, hj, rfl⟩ := List.getElem_of_mem hx
  have := h j hj
  rwa [gi_get hj] at this
theorem okRow_at {lo hi : Int} {l : List Int} (h : okRow lo hi l = true) {k : Nat} (hk : k < l.length) : lo ≤ gi l k ∧ gi l k ≤ hi := by
  unfold okRow at h; rw [List.all_eq_true] at h
  have := h l[k] (List.getElem_mem hk)
  rw [gi_get hk]; exact withinB_iff.1 this
/-- all rows have m numbers from lo to hi -/
def rowOk (m : Nat) (lo hi : Int) (l : List Int) : Bool := decide (l.length = m) && okRow lo hi l
def rowsB (m : Nat) (lo hi : Int) (t : Tbl) : Bool := t.all (rowOk m lo hi)
theorem rowsB_no {m : Nat} {lo hi : Int} {t : Tbl} {k : Nat} (hk : k < t.length) (h : rowOk m lo hi t[k] = false) : rowsB m lo hi t = false := by
  unfold rowsB; rw [List.all_eq_false]; exact ⟨t[k], List.getElem_mem hk, by simp [h]⟩
theorem rowsB_yes {m : Nat} {lo hi : Int} {t : Tbl} (h : ∀ j, (hj : j < t.length) → rowOk m lo hi t[j] = true) : rowsB m lo hi t = true := by
  unfold rowsB; rw [List.all_eq_true]
  intro x hx
  obtain ⟨j, hj, rfl⟩ := List.getElem_of_mem hx
  exact h j hj
theorem rowsB_at {m : Nat} {lo hi : Int} {t : Tbl} (h : rowsB m lo hi t = true) {k : Nat} (hk : k < t.length) : t[k].length = m ∧ okRow lo hi t[k] = true := by
  unfold rowsB at h; rw [List.all_eq_true] at h
  have := h t[k] (List.getElem_mem hk)
  simpa [rowOk] using this
theorem rowOk_len {m : Nat} {lo hi : Int} {l : List Int} (h : l.length ≠ m) : rowOk m lo hi l = false := by simp [rowOk, h]
theorem rowOk_of {m : Nat} {lo hi : Int} {l : List Int} (h : l.length = m) : rowOk m lo hi l = okRow lo hi l := by simp [rowOk, h]
/-- a table of 1 to 5 rows and columns with numbers from lo to hi -/
def tabB (lo hi : Int) (t : Tbl) : Bool := decide (1 ≤ t.length) && (decide (t.length ≤ 5) && (decide (1 ≤ (row t 0).length) && (decide ((row t 0).length ≤ 5) && rowsB (row t 0).length lo hi t)))
/-- n rows of m numbers from lo to hi -/
structure TOk (n m : Nat) (lo hi : Int) (t : Tbl) : Prop where
  n1 : 1 ≤ n
  n5 : n ≤ 5
  m1 : 1 ≤ m
  m5 : m ≤ 5
  len : t.length = n
  cols : ∀ i, i < n → (row t i).length = m
  bd : ∀ i j, i < n → j < m → lo ≤ tg t i j ∧ tg t i j ≤ hi
theorem tabB_ok {lo hi : Int} {t : Tbl} (h : tabB lo hi t = true) : TOk t.length (row t 0).length lo hi t := by
  simp only [tabB, Bool.and_eq_true, decide_eq_true_eq] at h
  obtain ⟨h1, h2, h3, h4, h5⟩ := h
  refine ⟨h1, h2, h3, h4, rfl, fun i hi => ?_, fun i j hi hj => ?_⟩
  · rw [row_at hi]; exact (rowsB_at h5 hi).1
  · have := rowsB_at h5 hi
    have h6 := okRow_at this.2 (k := j) (by omega)
    unfold tg; rw [row_at hi]; exact h6
theorem tabB_of {n m : Nat} {lo hi : Int} {t : Tbl} (h : TOk n m lo hi t) : tabB lo hi t = true := by
  have h0 := h.cols 0 (by have := h.n1; omega)
  have := h.n1; have := h.n5; have := h.m1; have := h.m5; have := h.len
  simp only [tabB, Bool.and_eq_true, decide_eq_true_eq]
  refine ⟨by omega, by omega, by omega, by omega, rowsB_yes fun j hj => ?_⟩
  have hc := h.cols j (by omega)
  rw [row_at hj] at hc
  rw [rowOk_of (by omega)]
  refine okRow_yes fun k hk => withinB_iff.2 ?_
  have := h.bd j k (by omega) (by omega)
  unfold tg at this; rw [row_at hj] at this; exact this
theorem TOk.weak {n m : Nat} {lo hi hi' : Int} {t : Tbl} (h : TOk n m lo hi t) (hh : hi ≤ hi') : TOk n m lo hi' t :=
  ⟨h.n1, h.n5, h.m1, h.m5, h.len, h.cols, fun i j a b => by have := h.bd i j a b; omega⟩

/-- a table told place by place -/
def mk (n m : Nat) (f : Nat → Nat → Int) : Tbl := (List.range n).map fun i => (List.range m).map (f i)
theorem mk_len (n m : Nat) (f : Nat → Nat → Int) : (mk n m f).length = n := by simp [mk]
theorem row_mk {n m i : Nat} (f : Nat → Nat → Int) (h : i < n) : row (mk n m f) i = (List.range m).map (f i) := by simp [row, mk, h]
theorem mk_cols {n m i : Nat} (f : Nat → Nat → Int) (h : i < n) : (row (mk n m f) i).length = m := by rw [row_mk f h]; simp
theorem tg_mk {n m i j : Nat} (f : Nat → Nat → Int) (h : i < n) (h2 : j < m) : tg (mk n m f) i j = f i j := by unfold tg; rw [row_mk f h]; simp [gi, h2]
theorem mk_succ (n m : Nat) (f : Nat → Nat → Int) : mk (n + 1) m f = mk n m f ++ [(List.range m).map (f n)] := by simp [mk, List.range_succ]
theorem map_succ (m : Nat) (f : Nat → Int) : (List.range (m + 1)).map f = (List.range m).map f ++ [f m] := by simp [List.range_succ]
theorem list_ext_gi {l m : List Int} (h : l.length = m.length) (hh : ∀ i, i < l.length → gi l i = gi m i) : l = m := by
  apply List.ext_getElem h
  intro i h1 h2
  have := hh i h1
  rwa [gi_get h1, gi_get h2] at this
theorem tbl_ext {t u : Tbl} (h : t.length = u.length) (hc : ∀ i, i < t.length → (row t i).length = (row u i).length) (hh : ∀ i j, i < t.length → j < (row t i).length → tg t i j = tg u i j) : t = u := by
  apply List.ext_getElem h
  intro i h1 h2
  have e1 := hc i h1
  rw [row_at h1, row_at h2] at e1
  refine list_ext_gi e1 fun j hj => ?_
  have := hh i j h1 (by rw [row_at h1]; exact hj)
  unfold tg at this
  rwa [row_at h1, row_at h2] at this
theorem mk_eq {n m : Nat} {f g : Nat → Nat → Int} (h : ∀ i j, i < n → j < m → f i j = g i j) : mk n m f = mk n m g := by
  refine tbl_ext (by simp [mk_len]) (fun i hi => ?_) (fun i j hi hj => ?_)
  · rw [mk_len] at hi; rw [mk_cols f hi, mk_cols g hi]
  · rw [mk_len] at hi; rw [mk_cols f hi] at hj; rw [tg_mk f hi hj, tg_mk g hi hj, h i j hi hj]
theorem mk_of {n m : Nat} {t : Tbl} (h1 : t.length = n) (h2 : ∀ i, i < n → (row t i).length = m) : mk n m (tg t) = t := by
  refine tbl_ext (by rw [mk_len, h1]) (fun i hi => ?_) (fun i j hi hj => ?_)
  · rw [mk_len] at hi; rw [mk_cols _ hi, h2 i hi]
  · rw [mk_len] at hi; rw [mk_cols _ hi] at hj; rw [tg_mk _ hi hj]
/-- one place of a table changed -/
def setT (t : Tbl) (i j : Nat) (x : Int) : Tbl := t.set i ((row t i).set j x)
theorem setT_len (t : Tbl) (i j : Nat) (x : Int) : (setT t i j x).length = t.length := by simp [setT]
theorem row_setT (t : Tbl) {i j k : Nat} (x : Int) (hi : i < t.length) : row (setT t i j x) k = if k = i then (row t i).set j x else row t k := by
  unfold setT row
  by_cases h : k = i
  · subst h; simp [hi]
  · rw [if_neg h, List.getElem?_set_ne (by omega)]
theorem cols_setT (t : Tbl) {i j k : Nat} (x : Int) (hi : i < t.length) : (row (setT t i j x) k).length = (row t k).length := by
  rw [row_setT t x hi]; split
  · next h => subst h; simp
  · rfl
theorem tg_setT (t : Tbl) {i j k q : Nat} (x : Int) (hi : i < t.length) (hj : j < (row t i).length) : tg (setT t i j x) k q = if k = i ∧ q = j then x else tg t k q := by
  unfold tg
  rw [row_setT t x hi]
  by_cases h : k = i
  · subst h
    rw [if_pos rfl]
    unfold gi
    by_cases h2 : q = j
    · subst h2; simp [hj]
    · rw [List.getElem?_set_ne (by omega), if_neg (by simp [h2])]
  · rw [if_neg h, if_neg (by simp [h])]

/-! ### How a table of the call's own lies -/
def rv (t : Tbl) (A : Nat → Option Addr) (C : Nat → Nat) : List Value := (List.range t.length).map fun i => .slice (A i) (row t i).length (C i)
theorem rv_len (t : Tbl) (A : Nat → Option Addr) (C : Nat → Nat) : (rv t A C).length = t.length := by simp [rv]
theorem rv_at {t : Tbl} {A : Nat → Option Addr} {C : Nat → Nat} {i : Nat} (h : i < t.length) : (rv t A C)[i]? = some (.slice (A i) (row t i).length (C i)) := by simp [rv, h]
/-- a row of a table: where its numbers lie -/
def RowAt (W : World) (B U : Nat) (v : Value) (A : Option Addr) (g o : Nat) (l : List Int) : Prop :=
  0 < l.length → A = some ⟨g, o, none⟩ ∧ B ≤ g ∧ g < U ∧ some g ≠ v.ownBlock ∧ ∀ j, j < l.length → W.cell? ⟨g, o + j, none⟩ = some (.int .i64 (gi l j)) ∧ W.frozen? ⟨g, o + j, none⟩ = false
def Apart (g o n g' o' n' : Nat) : Prop := g ≠ g' ∨ o + n ≤ o' ∨ o' + n' ≤ o
structure OwnL (T : TypeId) (W : World) (B U : Nat) (v : Value) (A : Nat → Option Addr) (C G O : Nat → Nat) (t : Tbl) : Prop where
  upto : U ≤ W.heap.size
  own : W.ownsRow B T 1 v t.length (rv t A C)
  blk : ∀ g, v.ownBlock = some g → g < U
  rows : ∀ i, i < t.length → RowAt W B U v (A i) (G i) (O i) (row t i)
  apart : ∀ i k, i < t.length → k < t.length → i ≠ k → 0 < (row t i).length → 0 < (row t k).length → Apart (G i) (O i) (row t i).length (G k) (O k) (row t k).length
/-- a table of the call's own, its blocks from B up to U -/
def OwnT (T : TypeId) (W : World) (B U : Nat) (v : Value) (t : Tbl) : Prop := ∃ A C G O, OwnL T W B U v A C G O t

section
variable {T T0 : TypeId} {W W' X Y : World} {B U : Nat} {v v' : Value} {A : Nat → Option Addr} {C G O : Nat → Nat} {t : Tbl} {l : List Int}
theorem OwnT.nil (T : TypeId) (W : World) (B : Nat) : OwnT T W B W.heap.size (.slice none 0 0) [] :=
  ⟨fun _ => none, fun _ => 0, fun _ => 0, fun _ => 0, Nat.le_refl _, World.ownsRow_nil _ _ _ _, fun g hg => by simp [Value.ownBlock] at hg, fun i hi => by simp at hi, fun i k hi => by simp at hi⟩
theorem RowAt.ext {A : Option Addr} {g o : Nat} (h : RowAt W B U v A g o l) (hU : U ≤ W.heap.size) (hE : Ext W W') : RowAt W' B U v A g o l := fun h0 => by
  obtain ⟨h1, h2, h3, h4, h5⟩ := h h0
  exact ⟨h1, h2, h3, h4, fun j hj => ⟨(hE.cell' (by omega)).trans (h5 j hj).1, (hE.frozen (p := ⟨g, o + j, none⟩) (by show g < _; omega)).trans (h5 j hj).2⟩⟩
theorem OwnL.ext (h : OwnL T W B U v A C G O t) (hE : Ext W W') : OwnL T W' B U v A C G O t :=
  ⟨Nat.le_trans h.upto hE.size, row_ext h.own hE, h.blk, fun i hi => (h.rows i hi).ext h.upto hE, h.apart⟩
theorem OwnT.ext (h : OwnT T W B U v t) (hE : Ext W W') : OwnT T W' B U v t := by obtain ⟨A, C, G, O, h⟩ := h; exact ⟨A, C, G, O, h.ext hE⟩
theorem OwnL.up (h : OwnL T W B U v A C G O t) {U' : Nat} (hU : U ≤ U') (hU' : U' ≤ W.heap.size) : OwnL T W B U' v A C G O t :=
  ⟨hU', h.own, fun g hg => Nat.lt_of_lt_of_le (h.blk g hg) hU, fun i hi h0 => by obtain ⟨h1, h2, h3, h4, h5⟩ := h.rows i hi h0; exact ⟨h1, h2, by omega, h4, h5⟩, h.apart⟩
theorem OwnT.up (h : OwnT T W B U v t) {U' : Nat} (hU : U ≤ U') (hU' : U' ≤ W.heap.size) : OwnT T W B U' v t := by obtain ⟨A, C, G, O, h⟩ := h; exact ⟨A, C, G, O, h.up hU hU'⟩
theorem OwnT.low (h : OwnT T W B U v t) {B' : Nat} (hB : B' ≤ B) : OwnT T W B' U v t := by
  obtain ⟨A, C, G, O, h⟩ := h
  exact ⟨A, C, G, O, h.upto, row_base h.own hB, h.blk, fun i hi h0 => by obtain ⟨h1, h2, h3, h4, h5⟩ := h.rows i hi h0; exact ⟨h1, by omega, h3, h4, h5⟩, h.apart⟩
theorem OwnL.row_ints (h : OwnL T W B U v A C G O t) {i : Nat} (hi : i < t.length) : Ints W (A i) (row t i) := fun j hj => by
  obtain ⟨h1, h2, h3, h4, h5⟩ := h.rows i hi (by omega)
  exact ⟨G i, O i, h1, Nat.lt_of_lt_of_le h3 h.upto, (h5 j hj).1⟩
/-- where the slice of a row lies -/
theorem OwnL.top (h : OwnL T W B U v A C G O t) {i : Nat} (hi : i < t.length) : ∃ g cap, v = .slice (some ⟨g, 0, none⟩) t.length cap ∧ B ≤ g ∧ g < U ∧ W.cell? ⟨g, i, none⟩ = some (.slice (A i) (row t i).length (C i)) := by
  obtain ⟨g, cap, rfl, hb, hg⟩ := ownsRow_form h.own (by omega)
  exact ⟨g, cap, rfl, hb, h.blk g rfl, row_cell h.own (rv_at hi)⟩
/-- one place stored -/
theorem OwnL.store (h : OwnL T W B U v A C G O t) {i j : Nat} (hi : i < t.length) (hj : j < (row t i).length) (x : Int) : OwnL T (W.setCell ⟨G i, O i + j, none⟩ (.int .i64 x)) B U v A C G O (setT t i j x) := by
  obtain ⟨h1, h2, h3, h4, h5⟩ := h.rows i hi (by omega)
  have hlt : G i < W.heap.size := Nat.lt_of_lt_of_le h3 h.upto
  have hrv : rv (setT t i j x) A C = rv t A C := by
    unfold rv; rw [setT_len]
    apply List.map_congr_left
    intro k _
    rw [cols_setT t x hi]
  have hfz : ∀ p : Addr, (W.setCell ⟨G i, O i + j, none⟩ (.int .i64 x)).frozen? p = W.frozen? p := fun p => World.frozen?_setCell _ _ _ _
  refine ⟨by simpa using h.upto, ?_, h.blk, fun k hk h0 => ?_, fun k q hk hq hne hk0 hq0 => ?_⟩
  · rw [setT_len, hrv]
    exact row_set_other h.own h4 _ _
  · rw [setT_len] at hk
    rw [cols_setT t x hi] at h0
    obtain ⟨k1, k2, k3, k4, k5⟩ := h.rows k hk h0
    refine ⟨k1, k2, k3, k4, fun q hq => ?_⟩
    rw [cols_setT t x hi] at hq
    refine ⟨?_, by rw [hfz]; exact (k5 q hq).2⟩
    have hv := tg_setT t (i := i) (j := j) (k := k) (q := q) x hi hj
    show _ = some (Value.int .i64 (tg (setT t i j x) k q))
    rw [hv]
    by_cases e : k = i ∧ q = j
    · obtain ⟨rfl, rfl⟩ := e
      rw [if_pos ⟨rfl, rfl⟩]
      exact World.cell?_setCell_same W _ _ (k5 q hq).1
    · rw [if_neg e]
      refine (World.cell?_setCell_other W _ _ _ (fun he => ?_)).trans (k5 q hq).1
      injection he with e1 e2
      by_cases hki : k = i
      · subst hki; exact e ⟨rfl, by omega⟩
      · rcases h.apart k i hk hi hki h0 (by omega) with a | a | a
        · exact a e1.symm
        · omega
        · omega
  · rw [setT_len] at hk hq
    rw [cols_setT t x hi] at hk0 hq0 ⊢
    rw [cols_setT t x hi]
    exact h.apart k q hk hq hne hk0 hq0
end

/- One more number, or one more row, behind a slice of the call's own. No program in sight. -/

def InfoOk (P : Program) (T : TypeId) (z : Value) (size bytes : Nat) : Prop := ∃ i, P.info? T = some i ∧ i.zero = some z ∧ i.size = size ∧ i.bytes = bytes
/-- what 'append(v, x)' has done to memory -/
def Push (w : World) (x : Value) (T0 : TypeId) (v v' : Value) (w' : World) : Prop :=
  (w.alloc (.cells #[x] T0)).grownBy w' v.ownBlock ∧ (v'.ownBlock = v.ownBlock ∨ v'.ownBlock = some (w.alloc (.cells #[x] T0)).heap.size)
theorem wpList_push {P : Program} {ops : Array Oper} {rest : List Oper} {o : Oper} {a : Act} {Q : Exit → Act → World → Prop} {w : World} {T0 : TypeId} {z x v : Value} {bytes k base : Nat} {xs : List Value} (hgd : o.guard = none) (s xx : Operand) (t : TypeId)
    (ho : o.op = .call { callee := .builtin .append, args := #[s, xx], argTypes := #[t, t] }) (hi : InfoOk P T0 z 1 bytes) (ht : P.underlying t = some (.slice T0)) (hz : z.cells.size = 1)
    (hs : a.eval s = v) (hx : a.eval xx = .slice (some ⟨w.heap.size, 0, none⟩) 1 1) (h1 : x.oneCell' = true) (hown : w.ownsRow base T0 1 v k xs) (hk : k ≤ 1000000) (hby : bytes ≤ 24) (hbase : base ≤ w.heap.size)
    (h : ∀ v' w', w'.ownsRow base T0 1 v' (k + 1) (xs ++ [x]) → Push w x T0 v v' w' → wpList P ops Q rest (a.put o.dst v') w') : wpList P ops Q (o :: rest) a (w.alloc (.cells #[x] T0)) := by
  obtain ⟨i, h2, h3, h4, h5⟩ := hi
  refine wpList_append_any _ hgd s xx t ho base T0 i z 1 bytes ht h2 h3 h4 h5 hz (by omega) v k xs hs (hown.alloc _) (w.heap.size + 1) (some ⟨w.heap.size, 0, none⟩) 1 1 [x] hx ⟨rfl, fun _ => ⟨_, rfl, ?_, fun j u' hj => ?_⟩⟩ (by simp [h1]) (by unfold maxLen; omega) ?_ (by simp; omega) ?_
  · show w.heap.size < w.heap.size + 1; omega
  · match j, hj with
    | 0, hj => simp at hj; subst hj; rw [add_at]; simp
    | j + 1, hj => simp at hj
  · have : (k + 1) * bytes ≤ (k + 1) * 24 := Nat.mul_le_mul_left _ hby
    omega
  · intro v' w' h6 h7 h8
    exact h v' w' h6 ⟨h7, h8⟩
theorem wpList_push_fits {P : Program} {ops : Array Oper} {rest : List Oper} {o : Oper} {a : Act} {Q : Exit → Act → World → Prop} {w : World} {T0 : TypeId} {z x : Value} {bytes k base g cap : Nat} {xs : List Value} (hgd : o.guard = none) (s xx : Operand) (t : TypeId)
    (ho : o.op = .call { callee := .builtin .append, args := #[s, xx], argTypes := #[t, t] }) (hi : InfoOk P T0 z 1 bytes) (ht : P.underlying t = some (.slice T0))
    (hs : a.eval s = .slice (some ⟨g, 0, none⟩) k cap) (hx : a.eval xx = .slice (some ⟨w.heap.size, 0, none⟩) 1 1) (h1 : x.oneCell' = true) (hown : w.ownsRow base T0 1 (.slice (some ⟨g, 0, none⟩) k cap) k xs) (hk : k + 1 ≤ cap)
    (h : ∀ w', w'.ownsRow base T0 1 (.slice (some ⟨g, 0, none⟩) (k + 1) cap) (k + 1) (xs ++ [x]) → (w.alloc (.cells #[x] T0)).grownBy w' (some g) → wpList P ops Q rest (a.put o.dst (.slice (some ⟨g, 0, none⟩) (k + 1) cap)) w') : wpList P ops Q (o :: rest) a (w.alloc (.cells #[x] T0)) := by
  obtain ⟨i, h2, h3, h4, h5⟩ := hi
  refine wpList_append_fits _ hgd s xx t ho base T0 i 1 ht h2 h4 g k cap xs hs (hown.alloc _) ⟨w.heap.size, 0, none⟩ 1 1 [x] hx rfl (fun j u' hj => ?_) (by simp [h1]) hk h
  match j, hj with
  | 0, hj => simp at hj; subst hj; rw [add_at]; simp
  | j + 1, hj => simp at hj
section
variable {T T0 : TypeId} {w w' W W' X Y : World} {B U base k : Nat} {x v v' : Value} {A : Nat → Option Addr} {C G O : Nat → Nat} {t : Tbl} {l : List Int} {xs : List Value}
theorem row_lt {g n' cap : Nat} {size : Nat} (h : W.ownsRow base T size (.slice (some ⟨g, 0, none⟩) n' cap) k xs) : g < W.heap.size := by
  rcases h.2 with ⟨e, _⟩ | ⟨g2, cap2, cur, e, _, hg, _⟩
  · cases e
  · injection e with e; injection e with e; injection e with e; subst e; exact (Array.getElem?_eq_some_iff.1 hg).1
theorem Push.size (h : Push w x T0 v v' w') : w.heap.size + 1 ≤ w'.heap.size := by have := h.1.size; simpa using this
/-- all that lay below the row's base lies as it lay -/
theorem Push.ext (h : Push w x T0 v v' w') {w0 : World} (hE : Ext w0 w) (hrow : w.ownsRow base T0 1 v k xs) (hb : w0.heap.size ≤ base) : Ext w0 w' := ext_append hE hrow hb h.1
/-- a block other than the row's -/
theorem Push.block (h : Push w x T0 v v' w') {g : Nat} (hg : g < w.heap.size) (hne : some g ≠ v.ownBlock) : w'.heap[g]? = w.heap[g]? :=
  (h.1.block g (by simp; omega) hne).trans (Below.heap_alloc w _ g hg)
theorem Push.cell (h : Push w x T0 v v' w') {g o : Nat} (hg : g < w.heap.size) (hne : some g ≠ v.ownBlock) : w'.cell? ⟨g, o, none⟩ = w.cell? ⟨g, o, none⟩ := World.cell?_of_block (h.block hg hne)
theorem Push.frozen (h : Push w x T0 v v' w') {g o : Nat} (hg : g < w.heap.size) (hne : some g ≠ v.ownBlock) : w'.frozen? ⟨g, o, none⟩ = w.frozen? ⟨g, o, none⟩ := World.frozen?_of_block (w := w) (h.block hg hne)
theorem Push.far (h : Push w x T0 v v' w') {g : Nat} (hg : g < w.heap.size) (hne : some g ≠ v.ownBlock) : some g ≠ v'.ownBlock := by
  rcases h.2 with e | e
  · rw [e]; exact hne
  · rw [e]; intro e2; simp at e2; omega
theorem Push.box (h : Push w x T0 v v' w') {g : Nat} {t : TypeId} {u : Value} (hb : Boxed w g t u) (hne : some g ≠ v.ownBlock) : Boxed w' g t u := (h.block hb.lt hne).trans hb
/-- another row lies as it lay -/
theorem Push.row (h : Push w x T0 v v' w') {u : Value} {b2 k2 size2 : Nat} {T2 : TypeId} {ys : List Value} (hu : w.ownsRow b2 T2 size2 u k2 ys) (hne : ∀ g, u.ownBlock = some g → some g ≠ v.ownBlock) : w'.ownsRow b2 T2 size2 u k2 ys := by
  refine ⟨hu.1, ?_⟩
  rcases hu.2 with h0 | ⟨g, cap, cur, rfl, hb, hg, h1, h2, h3⟩
  · exact .inl h0
  · exact .inr ⟨g, cap, cur, rfl, hb, (h.block (Array.getElem?_eq_some_iff.1 hg).1 (hne g rfl)).trans hg, h1, h2, h3⟩
theorem Push.ints (h : Push w x T0 v v' w') {a : Option Addr} {l : List Int} (hl : Ints w a l) (hne : ∀ b o s, a = some ⟨b, o, s⟩ → some b ≠ v.ownBlock) : Ints w' a l := fun j hj => by
  obtain ⟨b, off, ha, hb, hc⟩ := hl j hj
  refine ⟨b, off, ha, ?_, (h.cell hb (hne b off none ha)).trans hc⟩
  have := h.size; omega

theorem rv_snoc (t : Tbl) (l : List Int) (A A' : Nat → Option Addr) (C C' : Nat → Nat) (a : Option Addr) (c : Nat) (hA : ∀ i, i < t.length → A' i = A i ∧ C' i = C i) (ha : A' t.length = a ∧ C' t.length = c) :
    rv (t ++ [l]) A' C' = rv t A C ++ [.slice a l.length c] := by
  have hr : ∀ i, i < t.length → row (t ++ [l]) i = row t i := fun i hi => by simp [row, List.getElem?_append_left hi]
  have hl : row (t ++ [l]) t.length = l := by simp [row]
  unfold rv
  rw [List.length_append, List.length_singleton, List.range_succ, List.map_append]
  congr 1
  · apply List.map_congr_left
    intro i hi
    rw [List.mem_range] at hi
    rw [(hA i hi).1, (hA i hi).2, hr i hi]
  · simp only [List.map_cons, List.map_nil]; rw [hl, ha.1, ha.2]
/-- one more row behind a table of the call's own -/
theorem OwnL.push {W0 w1 : World} {Bn : Nat} {a : Option Addr} {c : Nat} (h : OwnL T W0 B U v A C G O t) (hE : Ext W0 w1) (hrow : w1.ownsRow Bn T0 1 (.slice a l.length c) l.length (l.map (.int .i64))) (hU : U ≤ Bn) (hB : B ≤ Bn)
    (hP : Push w1 (.slice a l.length c) T v v' w') (hown : w'.ownsRow B T 1 v' (t.length + 1) (rv t A C ++ [.slice a l.length c])) : OwnT T w' B w'.heap.size v' (t ++ [l]) := by
  have hsz := hP.size
  have hE0 := hE.size
  have hup := h.upto
  have hvb : ∀ g, U ≤ g → some g ≠ v.ownBlock := fun g hg e => by have := h.blk g e.symm; omega
  have hr : ∀ i, i < t.length → row (t ++ [l]) i = row t i := fun i hi => by simp [row, List.getElem?_append_left hi]
  have hl : row (t ++ [l]) t.length = l := by simp [row]
  let gn : Nat := match a with | some ⟨b, _, _⟩ => b | none => 0
  refine ⟨fun i => if i < t.length then A i else a, fun i => if i < t.length then C i else c, fun i => if i < t.length then G i else gn, fun i => if i < t.length then O i else 0, Nat.le_refl _, ?_, ?_, ?_, ?_⟩
  · rw [rv_snoc t l A _ C _ a c (fun i hi => by simp [hi]) (by simp), List.length_append]
    exact hown
  · intro g hg
    rcases hP.2 with e | e
    · have := h.blk g (by rw [← e, hg]); omega
    · rw [e] at hg; simp at hg
      rcases hown.2 with ⟨e2, _⟩ | ⟨g2, cap, cur, e2, _, hg2, _⟩
      · rw [e2] at e; simp [Value.ownBlock] at e
      · have := (Array.getElem?_eq_some_iff.1 hg2).1
        rw [e2] at e; simp [Value.ownBlock] at e; omega
  · intro i hi
    rw [List.length_append, List.length_singleton] at hi
    by_cases hit : i < t.length
    · simp only [hit, if_true]
      rw [hr i hit]
      intro h0
      obtain ⟨k1, k2, k3, k4, k5⟩ := h.rows i hit h0
      have hlt : G i < w1.heap.size := by omega
      refine ⟨k1, k2, by omega, hP.far hlt k4, fun j hj => ⟨?_, ?_⟩⟩
      · exact (hP.cell hlt k4).trans ((hE.cell' (by omega)).trans (k5 j hj).1)
      · exact (hP.frozen hlt k4).trans ((hE.frozen (p := ⟨G i, O i + j, none⟩) (by show G i < _; omega)).trans (k5 j hj).2)
    · obtain rfl : i = t.length := by omega
      simp only [hit, if_false]
      rw [hl]
      intro h0
      obtain ⟨g, cap, hv, hb, hlt⟩ := ownsRow_form hrow h0
      injection hv with hv1 hv2 hv3
      subst hv1
      have hne := hvb g (by omega)
      refine ⟨rfl, by show B ≤ g; omega, by show g < _; omega, hP.far hlt hne, fun j hj => ⟨?_, ?_⟩⟩
      · refine (hP.cell hlt hne).trans ?_
        rw [Nat.zero_add]
        exact (row_cell hrow (by rw [List.getElem?_map, List.getElem?_eq_getElem hj, Option.map_some])).trans (by rw [gi_get hj])
      · refine (hP.frozen hlt hne).trans ?_
        rcases hrow.2 with ⟨e, h00⟩ | ⟨g2, cap2, cur, e2, _, hg2, _⟩
        · omega
        · injection e2 with e3 e4 e5
          injection e3 with e3
          injection e3 with e3
          subst e3
          simp [World.frozen?, hg2]
  · intro i q hi hq hne
    rw [List.length_append, List.length_singleton] at hi hq
    have new_far : ∀ i, i < t.length → 0 < (row t i).length → 0 < l.length → G i ≠ gn := fun i hi h0 hl0 => by
      obtain ⟨_, _, k3, _, _⟩ := h.rows i hi h0
      obtain ⟨g, cap, hv, hb, hlt⟩ := ownsRow_form hrow hl0
      injection hv with hv1 hv2 hv3
      subst hv1
      show G i ≠ g
      omega
    by_cases h1 : i < t.length
    · by_cases h2 : q < t.length
      · simp only [h1, h2, if_true]
        rw [hr i h1, hr q h2]
        exact h.apart i q h1 h2 hne
      · obtain rfl : q = t.length := by omega
        simp only [h1, h2, if_true, if_false]
        rw [hr i h1, hl]
        exact fun a b => .inl (new_far i h1 a b)
    · obtain rfl : i = t.length := by omega
      have h2 : q < t.length := by omega
      simp only [h1, h2, if_true, if_false]
      rw [hr q h2, hl]
      exact fun a b => .inl (new_far q h2 b a).symm
theorem OwnL.push2 {W0 w1 : World} {Bn n k : Nat} {a : Option Addr} {c : Nat} (l : List Int) (hn : l.length = n) (hk : t.length = k) (h : OwnL T W0 B U v A C G O t) (hE : Ext W0 w1) (hrow : w1.ownsRow Bn T0 1 (.slice a n c) n (l.map (.int .i64))) (hU : U ≤ Bn) (hB : B ≤ Bn)
    (hP : Push w1 (.slice a n c) T v v' w') (hown : w'.ownsRow B T 1 v' (k + 1) (rv t A C ++ [.slice a n c])) : OwnT T w' B w'.heap.size v' (t ++ [l]) := by
  subst hn hk
  exact h.push hE hrow hU hB hP hown
/-- a table of the call's own, read -/
theorem OwnT.table (h : OwnT T W B U v t) : ∃ a c, v = .slice a t.length c ∧ Table W a t := by
  obtain ⟨A, C, G, O, h⟩ := h
  rcases h.own.2 with ⟨rfl, h0⟩ | ⟨g, cap, cur, rfl, hb, hg, h1, h2, h3, h4⟩
  · exact ⟨none, 0, by rw [h0], fun j hj => by omega⟩
  · refine ⟨_, cap, rfl, fun j hj => ?_⟩
    have hc := row_cell h.own (rv_at (A := A) (C := C) hj)
    refine ⟨g, 0, A j, C j, rfl, (Array.getElem?_eq_some_iff.1 hg).1, ?_, ?_⟩
    · rw [Nat.zero_add, ← row_at hj]; exact hc
    · rw [← row_at hj]; exact h.row_ints hj
/-- what a call hands back that makes a table -/
def RetT (T : TypeId) (t : Tbl) (w : World) (e : Ending) (w' : World) : Prop := ∃ v, e = .returned v ∧ OwnT T w' w.heap.size w'.heap.size v t ∧ Ext w w'
/-- .. a table and an error -/
def RetTE (T : TypeId) (t : Tbl) (err : Int) (w : World) (e : Ending) (w' : World) : Prop := ∃ v, e = .returned (.tuple #[v, .int .i64 err]) ∧ OwnT T w' w.heap.size w'.heap.size v t ∧ Ext w w'
theorem retTE_nil {T : TypeId} {w w' : World} {e : Int} (hE : Ext w w') : RetTE T [] e w (.returned (.tuple #[.slice none 0 0, .int .i64 e])) w' := ⟨_, rfl, ⟨fun _ => none, fun _ => 0, fun _ => 0, fun _ => 0, Nat.le_refl _, World.ownsRow_nil _ _ _ _, fun g hg => by simp [Value.ownBlock] at hg, fun i hi => by simp at hi, fun i k hi => by simp at hi⟩, hE⟩
end

/- A row of another table of the call's own, laid into a table of the call's own. No program in sight. -/

def updF {α : Type} (f : Nat → α) (i : Nat) (v : α) : Nat → α := fun k => if k = i then v else f k
theorem updF_at {α : Type} (f : Nat → α) (i : Nat) (v : α) : updF f i v i = v := by simp [updF]
theorem updF_ne {α : Type} (f : Nat → α) {i k : Nat} (v : α) (h : k ≠ i) : updF f i v k = f k := by simp [updF, h]
section
variable {T : TypeId} {W : World} {B U : Nat} {v : Value} {A : Nat → Option Addr} {C G O : Nat → Nat} {t : Tbl}
theorem row_set {t : Tbl} {i : Nat} (hi : i < t.length) (l : List Int) (k : Nat) : row (t.set i l) k = if k = i then l else row t k := by
  unfold row
  by_cases h : k = i
  · subst h; simp [hi]
  · rw [if_neg h, List.getElem?_set_ne (by omega)]
theorem Apart.symm {g o n g' o' n' : Nat} (h : Apart g o n g' o' n') : Apart g' o' n' g o n := by
  rcases h with h | h | h
  · exact .inl (Ne.symm h)
  · exact .inr (.inr h)
  · exact .inr (.inl h)
theorem OwnL.setRow (h : OwnL T W B U v A C G O t) {i g n cap : Nat} (hi : i < t.length) (hv : v = .slice (some ⟨g, 0, none⟩) n cap) {l : List Int} {a : Option Addr} {c g0 o0 : Nat} (hrow : RowAt W B U v a g0 o0 l)
    (hap : ∀ k, k < t.length → k ≠ i → 0 < l.length → 0 < (row t k).length → Apart g0 o0 l.length (G k) (O k) (row t k).length) :
    OwnL T (W.setCell ⟨g, i, none⟩ (.slice a l.length c)) B U v (updF A i a) (updF C i c) (updF G i g0) (updF O i o0) (t.set i l) := by
  have hn : t.length = n := by
    rcases h.own.2 with ⟨e, _⟩ | ⟨_, _, _, e, _⟩
    · rw [hv] at e; cases e
    · rw [hv] at e; injection e with _ e _; exact e.symm
  have hvb : v.ownBlock = some g := by rw [hv]; rfl
  have keep : ∀ {a : Option Addr} {g1 o1 : Nat} {l1 : List Int}, RowAt W B U v a g1 o1 l1 → RowAt (W.setCell ⟨g, i, none⟩ (.slice a l.length c)) B U v a g1 o1 l1 := by
    intro a g1 o1 l1 hr h0
    obtain ⟨h1, h2, h3, h4, h5⟩ := hr h0
    refine ⟨h1, h2, h3, h4, fun j hj => ⟨?_, ?_⟩⟩
    · refine (World.cell?_setCell_other W _ _ _ (fun e => ?_)).trans (h5 j hj).1
      injection e with e1 _
      exact h4 (by rw [hvb, e1])
    · rw [World.frozen?_setCell]; exact (h5 j hj).2
  have keep2 : ∀ {a' : Option Addr} {u : Value} {g1 o1 : Nat} {l1 : List Int}, RowAt W B U v a' g1 o1 l1 → RowAt (W.setCell ⟨g, i, none⟩ u) B U v a' g1 o1 l1 := by
    intro a' u g1 o1 l1 hr h0
    obtain ⟨h1, h2, h3, h4, h5⟩ := hr h0
    refine ⟨h1, h2, h3, h4, fun j hj => ⟨?_, ?_⟩⟩
    · refine (World.cell?_setCell_other W _ _ _ (fun e => ?_)).trans (h5 j hj).1
      injection e with e1 _
      exact h4 (by rw [hvb, e1])
    · rw [World.frozen?_setCell]; exact (h5 j hj).2
  have hrv : rv (t.set i l) (updF A i a) (updF C i c) = (rv t A C).set i (.slice a l.length c) := by
    apply List.ext_getElem
    · simp [rv]
    · intro k h1 h2
      simp only [rv, List.length_map, List.length_range, List.length_set] at h1
      rw [List.getElem_set]
      simp only [rv, List.getElem_map, List.getElem_range]
      rw [row_set hi]
      by_cases e : i = k
      · subst e; simp [updF]
      · rw [if_neg e, if_neg (by omega), updF_ne A a (by omega), updF_ne C c (by omega)]
  refine ⟨by simpa using h.upto, ?_, h.blk, fun k hk => ?_, fun k q hk hq hne hk0 hq0 => ?_⟩
  · rw [hrv, List.length_set]
    have := h.own
    rw [hv, hn] at this ⊢
    exact (this.stored i _).1
  · rw [List.length_set] at hk
    rw [row_set hi]
    by_cases e : k = i
    · subst e
      rw [if_pos rfl, updF_at, updF_at, updF_at]
      exact keep2 hrow
    · rw [if_neg e, updF_ne A a e, updF_ne G g0 e, updF_ne O o0 e]
      exact keep2 (h.rows k hk)
  · rw [List.length_set] at hk hq
    rw [row_set hi] at hk0 hq0 ⊢
    rw [row_set hi]
    by_cases e1 : k = i
    · subst e1
      have e2 : q ≠ k := fun e => hne e.symm
      rw [if_pos rfl] at hk0
      rw [if_neg e2] at hq0
      rw [if_pos rfl, if_neg e2, updF_at, updF_at, updF_ne G g0 e2, updF_ne O o0 e2]
      exact hap q hq e2 hk0 hq0
    · by_cases e2 : q = i
      · subst e2
        rw [if_neg e1] at hk0
        rw [if_pos rfl] at hq0
        rw [if_neg e1, if_pos rfl, updF_at, updF_at, updF_ne G g0 e1, updF_ne O o0 e1]
        exact (hap k hk e1 hq0 hk0).symm
      · rw [if_neg e1] at hk0
        rw [if_neg e2] at hq0
        rw [if_neg e1, if_neg e2, updF_ne G g0 e1, updF_ne O o0 e1, updF_ne G g0 e2, updF_ne O o0 e2]
        exact h.apart k q hk hq hne hk0 hq0
end

/- Plain words of a transport: how far rows and columns are, what rounds do to labels, and that they are those of the net. No program in sight. -/

/-- labels of rows and columns, and what was before them -/
structure NS where
  ra : List Int
  rf : List Int
  ca : List Int
  cf : List Int
def farT : Int := 1099511627776
def stepA (c : Int) (i j : Nat) (st : NS) : NS := if gi st.ra i < farT ∧ gi st.ra i + c < gi st.ca j then ⟨st.ra, st.rf, st.ca.set j (gi st.ra i + c), st.cf.set j i⟩ else st
def stepB (c p : Int) (i j : Nat) (st : NS) : NS := if 0 < p ∧ gi st.ca j < farT ∧ gi st.ca j - c < gi st.ra i then ⟨st.ra.set i (gi st.ca j - c), st.rf.set i j, st.ca, st.cf⟩ else st
def pairK (c P : Nat → Nat → Int) (m k : Nat) (st : NS) : NS := stepB (c (k / m) (k % m)) (P (k / m) (k % m)) (k / m) (k % m) (stepA (c (k / m) (k % m)) (k / m) (k % m) st)
def relK (c P : Nat → Nat → Int) (m : Nat) (st : NS) : Nat → NS
  | 0 => st
  | k + 1 => pairK c P m k (relK c P m st k)
def reachT (c P : Nat → Nat → Int) (n m : Nat) (st : NS) : Nat → NS
  | 0 => st
  | r + 1 => relK c P m (reachT c P n m st r) (n * m)
theorem relK_at {c P : Nat → Nat → Int} {m i j : Nat} (hj : j < m) (st : NS) : relK c P m st (i * m + (j + 1)) = stepB (c i j) (P i j) i j (stepA (c i j) i j (relK c P m st (i * m + j))) := by
  obtain ⟨h1, h2⟩ := div_at (i := i) hj
  show pairK c P m (i * m + j) (relK c P m st (i * m + j)) = _
  unfold pairK
  rw [h1, h2]
theorem gi_set' (l : List Int) {i : Nat} (v : Int) (j : Nat) (hi : i < l.length) : gi (l.set i v) j = if j = i then v else gi l j := by
  unfold gi
  by_cases h : j = i
  · subst h; simp [hi]
  · rw [if_neg h, List.getElem?_set_ne (by omega)]
/-! bounds -/
structure NsOk (n m : Nat) (k : Nat) (st : NS) : Prop where
  l1 : st.ra.length = n
  l2 : st.rf.length = n
  l3 : st.ca.length = m
  l4 : st.cf.length = m
  b1 : ∀ i, -((k : Int) * 99) ≤ gi st.ra i ∧ gi st.ra i ≤ farT
  b3 : ∀ j, -((k : Int) * 99) ≤ gi st.ca j ∧ gi st.ca j ≤ farT
  b2 : ∀ i, -1 ≤ gi st.rf i ∧ gi st.rf i < m
  b4 : ∀ j, 0 ≤ gi st.cf j ∧ gi st.cf j < n
theorem NsOk.mono {n m k k' : Nat} {st : NS} (h : NsOk n m k st) (hk : k ≤ k') : NsOk n m k' st :=
  ⟨h.l1, h.l2, h.l3, h.l4, fun i => by have := h.b1 i; omega, fun i => by have := h.b3 i; omega, h.b2, h.b4⟩
theorem stepA_ok {n m k i j : Nat} {c : Int} {st : NS} (h : NsOk n m k st) (hc : 0 ≤ c ∧ c ≤ 99) (hi : i < n) (hj : j < m) : NsOk n m (k + 1) (stepA c i j st) := by
  unfold stepA
  split
  · rename_i h1
    have a1 := h.b1 i
    have a3 := h.b3 j
    refine ⟨h.l1, h.l2, by rw [List.length_set]; exact h.l3, by rw [List.length_set]; exact h.l4, fun q => by have := h.b1 q; show -(((k + 1 : Nat) : Int) * 99) ≤ gi st.ra q ∧ gi st.ra q ≤ _; omega, fun q => ?_, h.b2, fun q => ?_⟩
    · rw [gi_set' _ _ _ (by rw [h.l3]; exact hj)]
      have := h.b3 q
      split <;> omega
    · rw [gi_set' _ _ _ (by rw [h.l4]; exact hj)]
      have := h.b4 q
      split <;> omega
  · exact h.mono (by omega)
theorem stepB_ok {n m k i j : Nat} {c p : Int} {st : NS} (h : NsOk n m k st) (hc : 0 ≤ c ∧ c ≤ 99) (hi : i < n) (hj : j < m) : NsOk n m (k + 1) (stepB c p i j st) := by
  unfold stepB
  split
  · rename_i h1
    have a1 := h.b1 i
    have a3 := h.b3 j
    refine ⟨by rw [List.length_set]; exact h.l1, by rw [List.length_set]; exact h.l2, h.l3, h.l4, fun q => ?_, fun q => by have := h.b3 q; show -(((k + 1 : Nat) : Int) * 99) ≤ gi st.ca q ∧ gi st.ca q ≤ _; omega, fun q => ?_, h.b4⟩
    · rw [gi_set' _ _ _ (by rw [h.l1]; exact hi)]
      have := h.b1 q
      split <;> omega
    · rw [gi_set' _ _ _ (by rw [h.l2]; exact hi)]
      have := h.b2 q
      split <;> omega
  · exact h.mono (by omega)
theorem relK_ok {n m k : Nat} {c P : Nat → Nat → Int} {st : NS} (h : NsOk n m k st) (hc : ∀ i j, i < n → j < m → 0 ≤ c i j ∧ c i j ≤ 99) : ∀ q, q ≤ n * m → NsOk n m (k + 2 * q) (relK c P m st q)
  | 0, _ => h
  | q + 1, hq => by
    obtain ⟨h1, h2, _⟩ := at_div (show q < n * m by omega)
    exact (stepB_ok (stepA_ok (relK_ok h hc q (by omega)) (hc _ _ h1 h2) h1 h2) (hc _ _ h1 h2) h1 h2).mono (by omega)
theorem area_le {n m : Nat} (hn : n ≤ 5) (hm : m ≤ 5) : n * m ≤ 25 := Nat.le_trans (Nat.mul_le_mul hn hm) (by omega)
theorem reachT_ok {n m : Nat} {c P : Nat → Nat → Int} {st : NS} (h : NsOk n m 0 st) (hc : ∀ i j, i < n → j < m → 0 ≤ c i j ∧ c i j ≤ 99) (hn : n ≤ 5) (hm : m ≤ 5) : ∀ r, NsOk n m (50 * r) (reachT c P n m st r)
  | 0 => h
  | r + 1 => (relK_ok (reachT_ok h hc hn hm r) hc _ (Nat.le_refl _)).mono (by have := area_le hn hm; omega)
/-! they are those of the net -/
structure RelT (n m : Nat) (st : NS) (lb : Lb Int) : Prop where
  l1 : st.ra.length = n
  l2 : st.rf.length = n
  l3 : st.ca.length = m
  l4 : st.cf.length = m
  ra : ∀ i, i < n → gi st.ra i = lb.at_ i
  ca : ∀ j, j < m → gi st.ca j = lb.at_ (n + j)
  rf : ∀ i, i < n → (gi st.rf i = -1 ∧ lb.by_ i = none) ∨ ∃ j : Nat, j < m ∧ gi st.rf i = j ∧ lb.by_ i = some (-((i * m + j : Nat) : Int) - 1)
  cf : ∀ j, j < m → lb.by_ (n + j) = none ∨ ∃ i : Nat, i < n ∧ gi st.cf j = i ∧ lb.by_ (n + j) = some (((i * m + j : Nat) : Int) + 1)
theorem RelT.last {n m : Nat} {st : NS} {lb : Lb Int} (h : RelT n m st lb) (z : Int) : RelT n m st { lb with last := z } := ⟨h.l1, h.l2, h.l3, h.l4, h.ra, h.ca, h.rf, h.cf⟩
section
variable {n m i j : Nat} {c P : Nat → Nat → Int} {W : Int} {st : NS} {lb : Lb Int}
theorem arc_pos (hj : j < m) : (netT n m c W).arcs.fr (((i * m + j : Nat) : Int) + 1) = i ∧ (netT n m c W).arcs.to (((i * m + j : Nat) : Int) + 1) = n + j ∧ (netT n m c W).arcs.ln (((i * m + j : Nat) : Int) + 1) = c i j := by
  obtain ⟨d1, d2⟩ := div_at (i := i) hj
  simp only [NetG.arcs, netT, eNo_pos]
  rw [if_neg (by omega), if_neg (by omega), if_neg (by omega), d1, d2]
  exact ⟨rfl, rfl, rfl⟩
theorem arc_neg (hj : j < m) : (netT n m c W).arcs.fr (-((i * m + j : Nat) : Int) - 1) = n + j ∧ (netT n m c W).arcs.to (-((i * m + j : Nat) : Int) - 1) = i ∧ (netT n m c W).arcs.ln (-((i * m + j : Nat) : Int) - 1) = -c i j := by
  obtain ⟨d1, d2⟩ := div_at (i := i) hj
  simp only [NetG.arcs, netT, eNo_neg]
  rw [if_pos (by omega), if_pos (by omega), if_pos (by omega), d1, d2]
  exact ⟨rfl, rfl, rfl⟩
theorem relA (h : RelT n m st lb) (hi : i < n) (hj : j < m) : RelT n m (stepA (c i j) i j st) ((netT n m c W).arcs.relax farT lb (((i * m + j : Nat) : Int) + 1)) := by
  obtain ⟨e1, e2, e3⟩ := arc_pos (n := n) (c := c) (W := W) (i := i) hj
  have hco : (netT n m c W).arcs.Cond farT lb (((i * m + j : Nat) : Int) + 1) ↔ gi st.ra i < farT ∧ gi st.ra i + c i j < gi st.ca j := by
    unfold Arcs.Cond
    rw [e1, e2, e3, ← h.ra i hi, ← h.ca j hj]
  unfold stepA Arcs.relax
  by_cases hc : gi st.ra i < farT ∧ gi st.ra i + c i j < gi st.ca j
  · rw [if_pos hc, if_pos (hco.2 hc)]
    unfold Arcs.put
    rw [e1, e2, e3, ← h.ra i hi]
    refine ⟨h.l1, h.l2, by rw [List.length_set]; exact h.l3, by rw [List.length_set]; exact h.l4, fun q hq => ?_, fun q hq => ?_, fun q hq => ?_, fun q hq => ?_⟩ <;> dsimp only
    · rw [upd_ne (by omega)]; exact h.ra q hq
    · rw [gi_set' _ _ _ (by rw [h.l3]; exact hj)]
      by_cases e : q = j
      · subst e; rw [if_pos rfl, upd_same]
      · rw [if_neg e, upd_ne (by omega)]; exact h.ca q hq
    · rw [show upd lb.by_ (n + j) (some (((i * m + j : Nat) : Int) + 1)) q = lb.by_ q from upd_ne (by omega)]; exact h.rf q hq
    · rw [gi_set' _ _ _ (by rw [h.l4]; exact hj)]
      by_cases e : q = j
      · subst e; exact .inr ⟨i, hi, by rw [if_pos rfl], by show upd _ _ _ _ = _; rw [upd_same]⟩
      · rw [if_neg e, show upd lb.by_ (n + j) (some (((i * m + j : Nat) : Int) + 1)) (n + q) = lb.by_ (n + q) from upd_ne (by omega)]; exact h.cf q hq
  · rw [if_neg hc, if_neg (fun h2 => hc (hco.1 h2))]; exact h
theorem relB (h : RelT n m st lb) (hi : i < n) (hj : j < m) {p : Int} (hp : 0 < p) : RelT n m (stepB (c i j) p i j st) ((netT n m c W).arcs.relax farT lb (-((i * m + j : Nat) : Int) - 1)) := by
  obtain ⟨e1, e2, e3⟩ := arc_neg (n := n) (c := c) (W := W) (i := i) hj
  have hco : (netT n m c W).arcs.Cond farT lb (-((i * m + j : Nat) : Int) - 1) ↔ gi st.ca j < farT ∧ gi st.ca j - c i j < gi st.ra i := by
    unfold Arcs.Cond
    rw [e1, e2, e3, ← h.ra i hi, ← h.ca j hj]; omega
  unfold stepB Arcs.relax
  by_cases hc : gi st.ca j < farT ∧ gi st.ca j - c i j < gi st.ra i
  · rw [if_pos ⟨hp, hc⟩, if_pos (hco.2 hc)]
    unfold Arcs.put
    rw [e1, e2, e3, ← h.ca j hj]
    refine ⟨by rw [List.length_set]; exact h.l1, by rw [List.length_set]; exact h.l2, h.l3, h.l4, fun q hq => ?_, fun q hq => ?_, fun q hq => ?_, fun q hq => ?_⟩ <;> dsimp only
    · rw [gi_set' _ _ _ (by rw [h.l1]; exact hi)]
      by_cases e : q = i
      · subst e; rw [if_pos rfl, upd_same]; omega
      · rw [if_neg e, upd_ne e]; exact h.ra q hq
    · rw [upd_ne (by omega)]; exact h.ca q hq
    · rw [gi_set' _ _ _ (by rw [h.l2]; exact hi)]
      by_cases e : q = i
      · subst e; exact .inr ⟨j, hj, by rw [if_pos rfl], by show upd _ _ _ _ = _; rw [upd_same]⟩
      · rw [if_neg e, show upd lb.by_ i (some (-((i * m + j : Nat) : Int) - 1)) q = lb.by_ q from upd_ne e]; exact h.rf q hq
    · rw [show upd lb.by_ i (some (-((i * m + j : Nat) : Int) - 1)) (n + q) = lb.by_ (n + q) from upd_ne (by omega)]; exact h.cf q hq
  · rw [if_neg (fun h2 => hc h2.2), if_neg (fun h2 => hc (hco.1 h2))]
    exact h
theorem stepB_no {p : Int} {c : Int} (h : ¬ 0 < p) : stepB c p i j st = st := by unfold stepB; rw [if_neg (fun h2 => h h2.1)]
/-- the steps that a plan allows -/
def stepsT (f : Nat → Int) : Nat → List Int
  | 0 => []
  | k + 1 => stepsT f k ++ (((k : Int) + 1) :: if 0 < f k then [-(k : Int) - 1] else [])
theorem stepsT_mem (f : Nat → Int) : ∀ K s, s ∈ stepsT f K ↔ (1 ≤ max s (-s) ∧ max s (-s) ≤ K) ∧ (s < 0 → 0 < f (eNo s))
  | 0, s => by simp only [stepsT, List.not_mem_nil, false_iff]; omega
  | K + 1, s => by
    simp only [stepsT, List.mem_append, List.mem_cons, stepsT_mem f K s]
    have hn : ∀ t : Int, t ∈ (if 0 < f K then [-(K : Int) - 1] else []) ↔ t = -(K : Int) - 1 ∧ 0 < f K := fun t => by split <;> simp [*]
    rw [hn]
    constructor
    · rintro (⟨⟨h1, h2⟩, h3⟩ | h | ⟨h, h3⟩)
      · exact ⟨⟨h1, by omega⟩, h3⟩
      · subst h; exact ⟨⟨by omega, by omega⟩, fun h => by omega⟩
      · subst h; refine ⟨⟨by omega, by omega⟩, fun _ => ?_⟩; rw [eNo_neg]; exact h3
    · rintro ⟨⟨h1, h2⟩, h3⟩
      by_cases e : max s (-s) ≤ K
      · exact .inl ⟨⟨h1, e⟩, h3⟩
      · by_cases e2 : s < 0
        · have : s = -(K : Int) - 1 := by omega
          refine .inr (.inr ⟨this, ?_⟩)
          have := h3 e2
          rwa [‹s = -(K : Int) - 1›, eNo_neg] at this
        · exact .inr (.inl (by omega))
theorem stepsT_steps (hW : ∀ k, k < n * m → flowT m P k < W) : (netT n m c W).Steps (flowT m P) (stepsT (flowT m P) (n * m)) := fun s => by
  rw [stepsT_mem]
  constructor
  · rintro ⟨h1, h2⟩
    refine ⟨h1, ?_⟩
    split
    · rename_i h; exact h2 h
    · exact hW _ (eNo_lt (G := netT n m c W) h1)
  · rintro ⟨h1, h2⟩
    refine ⟨h1, fun h => ?_⟩
    rw [if_pos h] at h2; exact h2
theorem rel_round (h : RelT n m st lb) : ∀ K, K ≤ n * m → RelT n m (relK c P m st K) ((stepsT (flowT m P) K).foldl ((netT n m c W).arcs.relax farT) lb)
  | 0, _ => h
  | K + 1, hK => by
    obtain ⟨d1, d2, d3⟩ := at_div (show K < n * m by omega)
    have h1 := relA (c := c) (W := W) (rel_round h K (by omega)) d1 d2
    simp only [stepsT, List.foldl_append, List.foldl_cons]
    show RelT n m (stepB _ _ _ _ (stepA _ _ _ _)) _
    by_cases h2 : 0 < flowT m P K
    · rw [if_pos h2]
      have h3 := relB (c := c) (W := W) h1 d1 d2 (p := P (K / m) (K % m)) h2
      rw [d3] at h3
      exact h3
    · rw [if_neg h2, stepB_no (p := P (K / m) (K % m)) h2]
      rw [d3] at h1
      exact h1
theorem rel_reach (h : RelT n m st lb) : ∀ r, RelT n m (reachT c P n m st r) ((netT n m c W).arcs.reach farT (stepsT (flowT m P) (n * m)) lb r)
  | 0 => h
  | r + 1 => rel_round ((rel_reach h r).last (-1)) (n * m) (Nat.le_refl _)
end

/- Plain words of a transport: one unit more along the cheapest chain. No program in sight. -/

/-- n rows of m numbers -/
def ShapeT (n m : Nat) (P : Tbl) : Prop := P.length = n ∧ ∀ i, i < n → (row P i).length = m
def addP (P : Tbl) (i j : Nat) (d : Int) : Tbl := setT P i j (tg P i j + d)
theorem addP_shape {n m i j : Nat} {P : Tbl} (h : ShapeT n m P) (hi : i < n) (d : Int) : ShapeT n m (addP P i j d) :=
  ⟨by unfold addP; rw [setT_len]; exact h.1, fun k hk => by unfold addP; rw [cols_setT _ _ (by rw [h.1]; exact hi)]; exact h.2 k hk⟩
theorem tg_addP {n m i j : Nat} {P : Tbl} (h : ShapeT n m P) (hi : i < n) (hj : j < m) (d : Int) (p q : Nat) : tg (addP P i j d) p q = if p = i ∧ q = j then tg P i j + d else tg P p q :=
  tg_setT P _ (by rw [h.1]; exact hi) (by rw [h.2 i hi]; exact hj)
theorem turn_add {n m i j : Nat} {P : Tbl} (h : ShapeT n m P) (hi : i < n) (hj : j < m) {s : Int} (hs : eNo s = i * m + j) : turnG (flowT m (tg P)) s = flowT m (tg (addP P i j (sg s))) := by
  obtain ⟨d1, d2⟩ := div_at (i := i) hj
  funext k
  unfold turnG flowT
  rw [tg_addP h hi hj, hs]
  unfold upd
  by_cases e : k = i * m + j
  · subst e
    rw [if_pos rfl, if_pos ⟨d1, d2⟩, d1, d2]
  · rw [if_neg e, if_neg]
    rintro ⟨e1, e2⟩
    refine e ?_
    rw [← e1, ← e2, Nat.mul_comm]
    exact (Nat.div_add_mod k m).symm
/-- what a plan leaves of the rows and of the columns -/
def leftR (a : List Int) (P : Tbl) (m : Nat) : List Int := (List.range a.length).map fun i => gi a i - sumN (tg P i) m
def leftC (b : List Int) (P : Tbl) (n : Nat) : List Int := (List.range b.length).map fun j => gi b j - sumN (fun i => tg P i j) n
theorem leftR_len (a : List Int) (P : Tbl) (m : Nat) : (leftR a P m).length = a.length := by simp [leftR]
theorem leftC_len (b : List Int) (P : Tbl) (n : Nat) : (leftC b P n).length = b.length := by simp [leftC]
theorem gi_leftR {a : List Int} {P : Tbl} {m i : Nat} (h : i < a.length) : gi (leftR a P m) i = gi a i - sumN (tg P i) m := by simp [gi, leftR, h]
theorem gi_leftC {b : List Int} {P : Tbl} {n j : Nat} (h : j < b.length) : gi (leftC b P n) j = gi b j - sumN (fun i => tg P i j) n := by simp [gi, leftC, h]
/-- where the chains may begin -/
def firstT (lr : List Int) (m : Nat) : NS := ⟨lr.map fun x => if x = 0 then farT else 0, lr.map fun _ => -1, List.replicate m farT, List.replicate m 0⟩
theorem gi_map {l : List Int} {f : Int → Int} {i : Nat} (h : i < l.length) : gi (l.map f) i = f (gi l i) := by simp [gi, h]
theorem gi_replicate {m j : Nat} (x : Int) (h : j < m) : gi (List.replicate m x) j = x := by simp [gi, h]
theorem gi_out {l : List Int} {i : Nat} (h : ¬ i < l.length) : gi l i = 0 := by unfold gi; rw [List.getElem?_eq_none (by omega)]; rfl
theorem firstT_ok (lr : List Int) {m : Nat} (hn : 1 ≤ lr.length) (hm : 1 ≤ m) : NsOk lr.length m 0 (firstT lr m) := by
  refine ⟨by simp [firstT], by simp [firstT], by simp [firstT], by simp [firstT], fun i => ?_, fun j => ?_, fun i => ?_, fun j => ?_⟩
  · show _ ≤ gi (lr.map _) i ∧ gi (lr.map _) i ≤ _
    by_cases h : i < lr.length
    · rw [gi_map h]; unfold farT; split <;> omega
    · rw [gi_out (by simpa using h)]; unfold farT; omega
  · show _ ≤ gi (List.replicate m farT) j ∧ gi (List.replicate m farT) j ≤ _
    by_cases h : j < m
    · rw [gi_replicate _ h]; unfold farT; omega
    · rw [gi_out (by simpa using h)]; unfold farT; omega
  · show _ ≤ gi (lr.map _) i ∧ gi (lr.map _) i < _
    by_cases h : i < lr.length
    · rw [gi_map h]; omega
    · rw [gi_out (by simpa using h)]; omega
  · show _ ≤ gi (List.replicate m 0) j ∧ gi (List.replicate m 0) j < _
    by_cases h : j < m
    · rw [gi_replicate _ h]; omega
    · rw [gi_out (by simpa using h)]; omega
def firstF (lr : List Int) (n : Nat) (v : Nat) : Int := if v < n then (if gi lr v = 0 then farT else 0) else farT
theorem first_rel {n m : Nat} {lr : List Int} (h : lr.length = n) (z : Int) : RelT n m (firstT lr m) ⟨firstF lr n, fun _ => none, z⟩ := by
  refine ⟨by simp [firstT, h], by simp [firstT, h], by simp [firstT], by simp [firstT], fun i hi => ?_, fun j hj => ?_, fun i hi => .inl ⟨?_, rfl⟩, fun j hj => .inl rfl⟩
  · show gi (lr.map _) i = firstF lr n i
    rw [gi_map (by omega)]; unfold firstF; rw [if_pos hi]
  · show gi (List.replicate m farT) j = firstF lr n (n + j)
    rw [gi_replicate _ hj]; unfold firstF; rw [if_neg (by omega)]
  · show gi (lr.map _) i = -1
    rw [gi_map (by omega)]
/-- the nearest column of which something is left, of the first k -/
def bestT (cl ca : List Int) : Nat → Int
  | 0 => -1
  | k + 1 => if 0 < gi cl k ∧ gi ca k < farT ∧ (bestT cl ca k < 0 ∨ gi ca k < gi ca (bestT cl ca k).toNat) then (k : Int) else bestT cl ca k
theorem bestT_bd (cl ca : List Int) : ∀ k, -1 ≤ bestT cl ca k ∧ bestT cl ca k < k
  | 0 => by simp [bestT]
  | k + 1 => by
    have ih := bestT_bd cl ca k
    simp only [bestT]
    split <;> omega
theorem bestT_pos (cl ca : List Int) : ∀ k p : Nat, bestT cl ca k = p → 0 < gi cl p ∧ gi ca p < farT
  | 0, p, h => by simp only [bestT] at h; omega
  | k + 1, p, h => by
    simp only [bestT] at h
    split at h
    · rename_i h1
      have : k = p := by omega
      subst this
      exact ⟨h1.1, h1.2.1⟩
    · exact bestT_pos cl ca k p h
theorem bestT_neg (cl ca : List Int) : ∀ k : Nat, bestT cl ca k < 0 → ∀ j, j < k → ¬ (0 < gi cl j ∧ gi ca j < farT)
  | 0, _, j, hj => by omega
  | k + 1, h, j, hj => by
    simp only [bestT] at h
    split at h
    · omega
    · rename_i h1
      rcases Nat.lt_succ_iff_lt_or_eq.1 hj with hj | rfl
      · exact bestT_neg cl ca k h j hj
      · exact fun h2 => h1 ⟨h2.1, h2.2, .inl h⟩
/-- the plan changed along the chain back from a column -/
def chainT (rf cf : List Int) : Nat → Nat → Tbl → Option Tbl
  | 0, _, _ => none
  | F + 1, j, P => if gi rf (gi cf j).toNat < 0 then some (addP P (gi cf j).toNat j 1) else chainT rf cf F (gi rf (gi cf j).toNat).toNat (addP (addP P (gi cf j).toNat j 1) (gi cf j).toNat (gi rf (gi cf j).toNat).toNat (-1))
theorem chain_said {n m : Nat} {c : Nat → Nat → Int} {W : Int} {st : NS} {lb : Lb Int} (hr : RelT n m st lb) {r : Nat} (hrn : r < n) : ∀ (F j : Nat) (l : List Int) (P : Tbl), Chn (netT n m c W).arcs lb.by_ (n + j) l r → j < m → l.length ≤ 2 * F → ShapeT n m P →
    ∃ P', chainT st.rf st.cf F j P = some P' ∧ ShapeT n m P' ∧ flowT m (tg P') = turnsG (flowT m (tg P)) l
  | 0, j, l, P, hc, hj, hl, hP => by
    have : l = [] := List.length_eq_zero_iff.1 (by omega)
    subst this
    cases hc
    omega
  | F + 1, j, l, P, hc, hj, hl, hP => by
    cases hc with
    | nil h => omega
    | @cons _ s l' _ h1 h2 =>
      rcases hr.cf j hj with h | ⟨i, hi, e1, e2⟩
      · rw [h] at h1; simp at h1
      · rw [e2] at h1
        injection h1 with h1
        subst h1
        obtain ⟨a1, a2, a3⟩ := arc_pos (n := n) (c := c) (W := W) (i := i) hj
        rw [a1] at h2
        have hsh := addP_shape (j := j) hP hi 1
        have ht := turn_add (s := ((i * m + j : Nat) : Int) + 1) hP hi hj (eNo_pos _)
        rw [show sg (((i * m + j : Nat) : Int) + 1) = 1 by unfold sg; rw [if_neg (by omega)]] at ht
        simp only [chainT]
        rw [e1, Int.toNat_natCast]
        rcases hr.rf i hi with ⟨f1, f2⟩ | ⟨j', hj', f1, f2⟩
        · cases h2 with
          | nil _ =>
            rw [f1, if_pos (by omega)]
            refine ⟨_, rfl, hsh, ?_⟩
            rw [← ht]; rfl
          | cons g1 _ => rw [f2] at g1; simp at g1
        · cases h2 with
          | nil g => rw [f2] at g; simp at g
          | @cons _ s2 l2 _ g1 g2 =>
            rw [f2] at g1
            injection g1 with g1
            subst g1
            obtain ⟨b1, b2, b3⟩ := arc_neg (n := n) (c := c) (W := W) (i := i) hj'
            rw [b1] at g2
            have hsh2 := addP_shape (j := j') hsh hi (-1)
            have ht2 := turn_add (s := -((i * m + j' : Nat) : Int) - 1) hsh hi hj' (eNo_neg _)
            rw [show sg (-((i * m + j' : Nat) : Int) - 1) = -1 by unfold sg; rw [if_pos (by omega)]] at ht2
            obtain ⟨P', p1, p2, p3⟩ := chain_said hr hrn F j' l2 _ g2 hj' (by simp at hl; omega) hsh2
            rw [f1, Int.toNat_natCast, if_neg (by omega)]
            refine ⟨P', p1, p2, ?_⟩
            rw [p3, ← ht2, ← ht]; rfl
theorem turnsG_le : ∀ (l : List Int) (f : Nat → Int) (k : Nat), turnsG f l k ≤ f k + l.length
  | [], f, k => by simp [turnsG]
  | s :: l, f, k => by
    have h := turnsG_le l (turnG f s) k
    unfold turnsG at h ⊢
    rw [List.foldl_cons]
    have : turnG f s k ≤ f k + 1 := by
      unfold turnG upd sg
      split
      · rename_i e; subst e; split <;> omega
      · omega
    simp only [List.length_cons]; omega
/-- what Next finds: nothing is left, or a chain along which one unit more goes -/
theorem next_said {n m : Nat} {c : Nat → Nat → Int} {a b : List Int} {P : Tbl} (hn : n ≤ 5) (hm : m ≤ 5) (hc : ∀ i j, i < n → j < m → 0 ≤ c i j ∧ c i j ≤ 99) (hal : a.length = n) (hbl : b.length = m) (ha : ∀ i, i < n → gi a i ≤ 1000) (hsum : sumN (gi a) n = sumN (gi b) m) (hP : ShapeT n m P) (h : PartT n m c (gi a) (gi b) (tg P)) :
    (bestT (leftC b P n) (reachT c (tg P) n m (firstT (leftR a P m) m) (n + m)).ca m < 0 ∧ PlanT n m (gi a) (gi b) (tg P)) ∨
    ∃ p : Nat, p < m ∧ bestT (leftC b P n) (reachT c (tg P) n m (firstT (leftR a P m) m) (n + m)).ca m = p ∧
      ∃ P', chainT (reachT c (tg P) n m (firstT (leftR a P m) m) (n + m)).rf (reachT c (tg P) n m (firstT (leftR a P m) m) (n + m)).cf 5 p P = some P' ∧ ShapeT n m P' ∧ PartT n m c (gi a) (gi b) (tg P') ∧ colsLeft n m (gi b) (tg P') = colsLeft n m (gi b) (tg P) - 1 ∧ 0 < colsLeft n m (gi b) (tg P) := by
  have hb1 : ∀ i j, i < n → j < m → tg P i j ≤ 1000 := fun i j hi hj => by have := h.le hi hj; have := ha i hi; omega
  have hS := part_ship (W := 1000000) (fun i j hi hj => by have := hb1 i j hi hj; omega) h
  have hG := netT_fine n m c 1000000
  have hL : (netT n m c 1000000).Steps (flowT m (tg P)) (stepsT (flowT m (tg P)) (n * m)) := stepsT_steps fun k hk => by
    obtain ⟨d1, d2, _⟩ := at_div hk
    have := hb1 _ _ d1 d2
    unfold flowT; omega
  have hin := steps_in hG hL
  obtain ⟨p, hp⟩ := hS.pot
  have hpot := pot_of hL hp
  have hlr : (leftR a P m).length = n := by rw [leftR_len, hal]
  have hgr : ∀ i, i < n → gi (leftR a P m) i = gi a i - sumN (tg P i) m := fun i hi => gi_leftR (by omega)
  have hgc : ∀ j, j < m → gi (leftC b P n) j = gi b j - sumN (fun i => tg P i j) n := fun j hj => gi_leftC (by omega)
  have hE := reach_end (A := (netT n m c 1000000).arcs) (far := farT) (first := firstF (leftR a P m) n) hin hpot (fun v hv => by unfold firstF farT; split <;> (try split) <;> omega) 0
  have hR := rel_reach (c := c) (P := tg P) (W := 1000000) (first_rel (m := m) hlr 0) (n + m)
  generalize (netT n m c 1000000).arcs.reach farT (stepsT (flowT m (tg P)) (n * m)) ⟨firstF (leftR a P m) n, fun _ => none, 0⟩ (n + m) = lb at *
  generalize reachT c (tg P) n m (firstT (leftR a P m) m) (n + m) = st at *
  have hln : ∀ s ∈ stepsT (flowT m (tg P)) (n * m), -99 ≤ (netT n m c 1000000).arcs.ln s ∧ (netT n m c 1000000).arcs.ln s ≤ 99 := fun s hs => by
    have h1 := eNo_lt (G := netT n m c 1000000) ((hL s).1 hs).1
    obtain ⟨d1, d2, _⟩ := at_div (show eNo s < n * m from h1)
    have := hc _ _ d1 d2
    simp only [NetG.arcs, netT]
    split <;> omega
  have hleft : ∀ i, i < n → 0 ≤ gi a i - sumN (tg P i) m := fun i hi => by have := h.rows i hi; omega
  have hleft2 : ∀ j, j < m → 0 ≤ gi b j - sumN (fun i => tg P i j) n := fun j hj => by have := h.cols j hj; omega
  by_cases hb : bestT (leftC b P n) st.ca m < 0
  · left
    refine ⟨hb, h.full hsum fun j hj h0 => ?_⟩
    have h1 := bestT_neg _ _ m hb j hj
    rw [hgc j hj] at h1
    -- something is left of a row, too
    have h2 : ∃ i, i < n ∧ 0 < gi a i - sumN (tg P i) m := Classical.byContradiction fun hno => by
      have z1 : sumN (fun i => gi a i - sumN (tg P i) m) n = 0 := by
        rw [sumN_congr (g := fun _ => 0) (fun i hi => by have := hleft i hi; have : ¬ 0 < gi a i - sumN (tg P i) m := fun h3 => hno ⟨i, hi, h3⟩; omega), sumN_zero]
      have z2 := sumN_add (fun i => gi a i - sumN (tg P i) m) (fun i => sumN (tg P i) m) n
      rw [sumN_congr (g := gi a) (fun i _ => by omega), total_rows] at z2
      have z3 := sumN_add (fun j => gi b j - sumN (fun i => tg P i j) n) (fun j => sumN (fun i => tg P i j) n) m
      rw [sumN_congr (g := gi b) (fun i _ => by omega)] at z3
      have z4 := sumN_term (f := fun j => gi b j - sumN (fun i => tg P i j) n) (n := m) hleft2 hj
      omega
    obtain ⟨i, hi, h3⟩ := h2
    refine h1 ⟨h0, ?_⟩
    rw [hR.ca j hj]
    have e1 := hE.le i (by omega)
    have e2 : firstF (leftR a P m) n i = 0 := by unfold firstF; rw [if_pos hi, if_neg]; rw [hgr i hi]; omega
    obtain ⟨a1, a2, a3⟩ := arc_pos (n := n) (c := c) (W := 1000000) (i := i) hj
    have hmem : (((i * m + j : Nat) : Int) + 1) ∈ stepsT (flowT m (tg P)) (n * m) := by
      rw [stepsT_mem]
      have := lt_at hi hj
      exact ⟨⟨by omega, by omega⟩, fun hh => by omega⟩
    have e3 := hE.sat _ hmem
    rw [a1, a2, a3] at e3
    have e4 := hc i j hi hj
    have := e3 (by unfold farT; omega)
    unfold farT
    omega
  · right
    have hbd := bestT_bd (leftC b P n) st.ca m
    obtain ⟨q, hq⟩ := Int.eq_ofNat_of_zero_le (show 0 ≤ bestT (leftC b P n) st.ca m by omega)
    have hqm : q < m := by omega
    obtain ⟨hb3, hb4⟩ := bestT_pos _ _ m q hq
    rw [hgc q hqm] at hb3
    rw [hR.ca q hqm] at hb4
    obtain ⟨cc, r, g1, g2, g3, g4, g5⟩ := ship_more hG hS hL hpot hE (K := 99) (by omega) hln (by unfold farT; omega) (fun v hv => by
      by_cases hv' : v < n
      · unfold firstF
        rw [if_pos hv', if_pos hv', hgr v hv']
        have := hleft v hv'
        split
        · exact .inl rfl
        · exact .inr ⟨rfl, by omega⟩
      · unfold firstF; rw [if_neg hv']; exact .inl rfl) (best := n + q) (by omega) hb4
    have hrn : r < n := Classical.byContradiction fun hh => by
      rw [if_neg hh] at g3
      have := hleft2 (r - n) (by omega)
      omega
    obtain ⟨P', p1, p2, p3⟩ := chain_said (c := c) (W := 1000000) hR hrn 5 q cc P g1 hqm (by omega) hP
    rw [← p3] at g5
    have hW' : ∀ i j, i < n → j < m → tg P' i j < 1000000 := fun i j hi hj => by
      have h1 := turnsG_le cc (flowT m (tg P)) (i * m + j)
      rw [← p3] at h1
      obtain ⟨d1, d2⟩ := div_at (i := i) hj
      unfold flowT at h1
      rw [d1, d2] at h1
      have := hb1 i j hi hj
      omega
    have hone : ∀ j, j < m → (if n + j < n then gi a (n + j) - sumN (tg P (n + j)) m else -(gi b (n + j - n) - sumN (fun i => tg P i (n + j - n)) n)) + one (n + q) (n + j) - one r (n + j) = -(gi b j - sumN (fun i => tg P i j) n) + one q j := fun j hj => by
      rw [if_neg (by omega), show n + j - n = j by omega]
      have e1 : one r (n + j) = 0 := by unfold one; rw [if_neg (by omega)]
      have e2 : one (n + q) (n + j) = one q j := by
        unfold one
        by_cases h : q = j
        · rw [if_pos h, if_pos (by omega)]
        · rw [if_neg h, if_neg (by omega)]
      rw [e1, e2]; omega
    have hpart := ship_part g5 hW' (a := gi a) (b := gi b) (fun i hi => by rw [if_pos hi]) (fun j hj => by rw [if_neg (by omega), show n + j - n = j by omega]) (fun i hi => by
      rw [if_pos hi]
      have e1 : one (n + q) i = 0 := by unfold one; rw [if_neg (by omega)]
      have := hleft i hi
      rw [e1]
      unfold one
      split
      · rename_i e; subst e; rw [if_pos hrn] at g3; omega
      · omega) (fun j hj => by
      rw [hone j hj]
      have := hleft2 j hj
      unfold one
      split
      · rename_i e; subst e; omega
      · omega)
    refine ⟨q, hqm, hq, P', p1, p2, hpart, ?_, ?_⟩
    · unfold colsLeft
      have key : ∀ j, j < m → gi b j - sumN (fun i => tg P' i j) n = (gi b j - sumN (fun i => tg P i j) n) + (-1) * (1 * one q j) := fun j hj => by
        have h1 := g5.out (n + j) (by omega)
        rw [out_col hj, hone j hj] at h1
        rw [if_neg (by omega), show n + j - n = j by omega] at h1
        omega
      rw [sumN_congr key, sumN_add, sumN_mul, sum_one (fun _ => 1) hqm]
      omega
    · have := sumN_term (f := fun j => gi b j - sumN (fun i => tg P i j) n) (n := m) hleft2 hqm
      unfold colsLeft
      omega

end Go.Proofs.Ytbejgbflipoboaa.Tr
