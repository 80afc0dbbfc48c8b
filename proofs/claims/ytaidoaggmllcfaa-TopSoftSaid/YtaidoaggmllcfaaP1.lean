/- What a repair makes, in plain words: rows and columns that have too much are cut, then what rows and columns lack is filled in. -/
import Derived.Test.YtaidoaggmllcfaaT10
import Derived.Test.YtaidoaggmllcfaaLSte
namespace Go.Proofs.Ytaidoaggmllcfaa
open Go.RowKit

theorem gi_set {l : List Int} {j : Nat} (hj : j < l.length) (v : Int) (q : Nat) : gi (l.set j v) q = if q = j then v else gi l q := by
  unfold gi
  by_cases h : q = j
  · subst h; simp [hj]
  · rw [if_neg h, List.getElem?_set_ne (by omega)]
theorem smTo_set {l : List Int} {j : Nat} (hj : j < l.length) (d : Int) : ∀ k, smTo (l.set j (gi l j + d)) k = smTo l k + (if j < k then d else 0)
  | 0 => by simp [smTo]
  | k + 1 => by
    rw [smTo_succ, smTo_succ, smTo_set hj d k, gi_set hj]
    by_cases h1 : k = j
    · subst h1; rw [if_pos rfl, if_neg (by omega), if_pos (by omega)]; omega
    · rw [if_neg h1]
      by_cases h2 : j < k
      · rw [if_pos h2, if_pos (by omega)]; omega
      · rw [if_neg h2, if_neg (by omega)]; omega
theorem sm_setT {t : Tbl} {i j : Nat} (hi : i < t.length) (hj : j < (row t i).length) (d : Int) (k : Nat) : sm (row (setT t i j (tg t i j + d)) k) = sm (row t k) + (if k = i then d else 0) := by
  unfold sm
  rw [cols_setT t _ hi, row_setT t _ hi]
  by_cases h : k = i
  · subst h
    rw [if_pos rfl, if_pos rfl]
    show smTo ((row t k).set j (gi (row t k) j + d)) _ = _
    rw [smTo_set hj, if_pos hj]
  · rw [if_neg h, if_neg h]; omega
theorem csTo_setT {t : Tbl} {i j : Nat} (hi : i < t.length) (hj : j < (row t i).length) (d : Int) (q : Nat) : ∀ k, csTo (setT t i j (tg t i j + d)) q k = csTo t q k + (if q = j ∧ i < k then d else 0)
  | 0 => by simp [csTo]
  | k + 1 => by
    show csTo _ q k + tg _ k q = csTo t q k + tg t k q + _
    rw [csTo_setT hi hj d q k, tg_setT t _ hi hj]
    by_cases h1 : q = j
    · subst h1
      by_cases h2 : k = i
      · subst h2; rw [if_neg (by omega), if_pos ⟨rfl, rfl⟩, if_pos (by omega)]; omega
      · rw [if_neg (by omega : ¬ (k = i ∧ q = q))]
        by_cases h3 : i < k
        · rw [if_pos ⟨rfl, h3⟩, if_pos ⟨rfl, by omega⟩]; omega
        · rw [if_neg (by omega), if_neg (by omega)]; omega
    · rw [if_neg (by omega), if_neg (by omega), if_neg (by omega)]; omega
theorem cs_setT {t : Tbl} {i j : Nat} (hi : i < t.length) (hj : j < (row t i).length) (d : Int) (q : Nat) : cs (setT t i j (tg t i j + d)) q = cs t q + (if q = j then d else 0) := by
  unfold cs
  rw [setT_len, csTo_setT hi hj]
  by_cases h : q = j
  · rw [if_pos ⟨h, hi⟩, if_pos h]
  · rw [if_neg (by omega), if_neg h]
/-- what a row, a column, lacks -/
def lr (x : List Int) (t : Tbl) (i : Nat) : Int := gi x i * 1000 - sm (row t i)
def lc (y : List Int) (t : Tbl) (j : Nat) : Int := gi y j * 1000 - cs t j
/-- no row and no column has too much -/
structure FOk (n m : Nat) (x y : List Int) (t : Tbl) : Prop where
  ok : TOk n m 0 1000000 t
  rows : ∀ i, i < n → 0 ≤ lr x t i
  cols : ∀ j, j < m → 0 ≤ lc y t j
theorem FOk.tight {n m : Nat} {x y : List Int} {t : Tbl} (h : FOk n m x y t) (hx : ∀ j, j < n → 0 ≤ gi x j ∧ gi x j ≤ 30) : TOk n m 0 30000 t :=
  ⟨h.ok.n1, h.ok.n5, h.ok.m1, h.ok.m5, h.ok.len, h.ok.cols, fun i j hi hj => by
    have h1 := h.ok.bd i j hi hj
    have h2 := h.rows i hi
    have h3 := hx i hi
    have hc := h.ok.cols i hi
    have h4 := (smTo_mono (l := row t i) (fun q hq => (h.ok.bd i q hi (by omega)).1) _ (Nat.le_refl _) j (by omega)).1
    unfold lr sm at h2
    refine ⟨h1.1, ?_⟩
    show gi (row t i) j ≤ 30000
    omega⟩
def stepF (x y : List Int) (t : Tbl) (i j : Nat) : Tbl := setT t i j (tg t i j + min (lr x t i) (lc y t j))
theorem stepF_lr {n m : Nat} {x y : List Int} {t : Tbl} (h : TOk n m 0 1000000 t) {i j : Nat} (hi : i < n) (hj : j < m) (k : Nat) : lr x (stepF x y t i j) k = lr x t k - (if k = i then min (lr x t i) (lc y t j) else 0) := by
  have h1 : i < t.length := by rw [h.len]; exact hi
  have h2 : j < (row t i).length := by rw [h.cols i hi]; exact hj
  unfold stepF
  show gi x k * 1000 - sm (row (setT t i j (tg t i j + min (lr x t i) (lc y t j))) k) = gi x k * 1000 - sm (row t k) - _
  rw [sm_setT h1 h2]; omega
theorem stepF_lc {n m : Nat} {x y : List Int} {t : Tbl} (h : TOk n m 0 1000000 t) {i j : Nat} (hi : i < n) (hj : j < m) (k : Nat) : lc y (stepF x y t i j) k = lc y t k - (if k = j then min (lr x t i) (lc y t j) else 0) := by
  have h1 : i < t.length := by rw [h.len]; exact hi
  have h2 : j < (row t i).length := by rw [h.cols i hi]; exact hj
  unfold stepF
  show gi y k * 1000 - cs (setT t i j (tg t i j + min (lr x t i) (lc y t j))) k = gi y k * 1000 - cs t k - _
  rw [cs_setT h1 h2]; omega
theorem stepF_ok {n m : Nat} {x y : List Int} {t : Tbl} (h : FOk n m x y t) (hx : ∀ j, j < n → 0 ≤ gi x j ∧ gi x j ≤ 30) {i j : Nat} (hi : i < n) (hj : j < m) : FOk n m x y (stepF x y t i j) := by
  have h1 : i < t.length := by rw [h.ok.len]; exact hi
  have h2 : j < (row t i).length := by rw [h.ok.cols i hi]; exact hj
  have a1 := h.rows i hi
  have a2 := h.cols j hj
  have a3 : 0 ≤ gi x i ∧ gi x i ≤ 30 := hx i hi
  refine ⟨⟨h.ok.n1, h.ok.n5, h.ok.m1, h.ok.m5, by unfold stepF; rw [setT_len, h.ok.len], fun k hk => by unfold stepF; rw [cols_setT t _ h1, h.ok.cols k hk], fun k q hk hq => ?_⟩, fun k hk => ?_, fun k hk => ?_⟩
  · unfold stepF
    rw [tg_setT t _ h1 h2]
    have b1 := (h.tight hx).bd i j hi hj
    have b2 := h.ok.bd k q hk hq
    have b3 : lr x t i ≤ 30000 := by
      unfold lr
      have := (sm_bd h.ok hi).1
      omega
    split
    · omega
    · exact b2
  · rw [stepF_lr h.ok hi hj]
    have := h.rows k hk
    split
    · next e => subst e; omega
    · omega
  · rw [stepF_lc h.ok hi hj]
    have := h.cols k hk
    split
    · next e => subst e; omega
    · omega
theorem stepF_same {n m : Nat} {x y : List Int} {t : Tbl} (h : TOk n m 0 1000000 t) {i j : Nat} (hi : i < n) (hj : j < m) (h0 : min (lr x t i) (lc y t j) = 0) : stepF x y t i j = t := by
  have h1 : i < t.length := by rw [h.len]; exact hi
  have h2 : j < (row t i).length := by rw [h.cols i hi]; exact hj
  unfold stepF
  rw [h0, Int.add_zero]
  refine tbl_ext (setT_len _ _ _ _) (fun k _ => cols_setT t _ h1) (fun k q _ _ => ?_)
  rw [tg_setT t _ h1 h2]
  split
  · next e => rw [e.1, e.2]
  · rfl
/-- the first z places filled, row by row -/
def fillTo (m : Nat) (x y : List Int) (t : Tbl) : Nat → Tbl
  | 0 => t
  | z + 1 => stepF x y (fillTo m x y t z) (z / m) (z % m)
theorem rank_lt {n m z : Nat} (h : z < n * m) : z / m < n ∧ z % m < m := by
  have hm : 0 < m := by
    rcases Nat.eq_zero_or_pos m with e | e
    · subst e; simp at h
    · exact e
  exact ⟨Nat.div_lt_of_lt_mul (by rw [Nat.mul_comm]; exact h), Nat.mod_lt _ hm⟩
theorem fillTo_ok {n m : Nat} {x y : List Int} {t : Tbl} (h : FOk n m x y t) (hx : ∀ j, j < n → 0 ≤ gi x j ∧ gi x j ≤ 30) : ∀ z, z ≤ n * m → FOk n m x y (fillTo m x y t z)
  | 0, _ => h
  | z + 1, hz => by
    have := rank_lt (show z < n * m by omega)
    exact stepF_ok (fillTo_ok h hx z (by omega)) hx this.1 this.2
theorem fill_skip {n m : Nat} {x y : List Int} {t : Tbl} (h : FOk n m x y t) (hx : ∀ j, j < n → 0 ≤ gi x j ∧ gi x j ≤ 30) {z : Nat} : ∀ k, z + k ≤ n * m → (∀ r, z ≤ r → r < z + k → min (lr x (fillTo m x y t z) (r / m)) (lc y (fillTo m x y t z) (r % m)) = 0) → fillTo m x y t (z + k) = fillTo m x y t z
  | 0, _, _ => rfl
  | k + 1, hk, h0 => by
    have ih := fill_skip h hx k (by omega) (fun r h1 h2 => h0 r h1 (by omega))
    have hr := rank_lt (show z + k < n * m by omega)
    show stepF x y (fillTo m x y t (z + k)) ((z + k) / m) ((z + k) % m) = _
    rw [ih]
    exact stepF_same (fillTo_ok h hx z (by omega)).ok hr.1 hr.2 (h0 (z + k) (by omega) (by omega))
/-- where the staircase stands -/
structure Stair (n m : Nat) (x y : List Int) (t0 : Tbl) (i j : Nat) (t : Tbl) : Prop where
  hi : i ≤ n
  hj : j ≤ m
  at_ : t = fillTo m x y t0 (min (i * m + j) (n * m))
  rows : ∀ p, p < i → lr x t p = 0
  cols : ∀ q, q < j → lc y t q = 0
theorem rank_step {m i j : Nat} (hj : j < m) : (i * m + j) / m = i ∧ (i * m + j) % m = j := flat_div hj
theorem mul_next {n m i j : Nat} (hi : i < n) (hj : j < m) : i * m + j < n * m := by
  have : (i + 1) * m ≤ n * m := Nat.mul_le_mul_right m hi
  rw [Nat.add_mul, Nat.one_mul] at this; omega
theorem Stair.step {n m : Nat} {x y : List Int} {t0 t : Tbl} {i j : Nat} (h : Stair n m x y t0 i j t) (h0 : FOk n m x y t0) (hx : ∀ j, j < n → 0 ≤ gi x j ∧ gi x j ≤ 30) (hi : i < n) (hj : j < m) :
    (lc y (stepF x y t i j) j = 0 → Stair n m x y t0 i (j + 1) (stepF x y t i j)) ∧ (lc y (stepF x y t i j) j ≠ 0 → Stair n m x y t0 (i + 1) j (stepF x y t i j)) := by
  have hz := mul_next hi hj
  have e1 : min (i * m + j) (n * m) = i * m + j := by omega
  have ht := h.at_
  rw [e1] at ht
  have hok : FOk n m x y t := by rw [ht]; exact fillTo_ok h0 hx _ (by omega)
  have e2 : stepF x y t i j = fillTo m x y t0 (i * m + j + 1) := by
    show _ = stepF x y (fillTo m x y t0 (i * m + j)) ((i * m + j) / m) ((i * m + j) % m)
    rw [(rank_step hj).1, (rank_step hj).2, ← ht]
  have hok2 := stepF_ok hok hx hi hj
  have a1 := hok.rows i hi
  have a2 := hok.cols j hj
  have cl := stepF_lc (x := x) (y := y) hok.ok hi hj
  have rl := stepF_lr (x := x) (y := y) hok.ok hi hj
  have keepc : ∀ q, q < j → lc y (stepF x y t i j) q = 0 := fun q hq => by rw [cl, if_neg (by omega), h.cols q hq]; omega
  have keepr : ∀ p, p < i → lr x (stepF x y t i j) p = 0 := fun p hp => by rw [rl, if_neg (by omega), h.rows p hp]; omega
  constructor
  · intro hc
    refine ⟨by omega, by omega, ?_, keepr, fun q hq => ?_⟩
    · rw [e2]; congr 1
      have : i * m + j + 1 ≤ n * m := hz
      omega
    · by_cases e : q = j
      · subst e; exact hc
      · exact keepc q (by omega)
  · intro hc
    have hri : lr x (stepF x y t i j) i = 0 := by
      rw [cl, if_pos rfl] at hc
      rw [rl, if_pos rfl]; omega
    refine ⟨by omega, by omega, ?_, fun p hp => ?_, keepc⟩
    · -- the places between are filled already
      have hm1 : (i + 1) * m = i * m + m := by rw [Nat.add_mul, Nat.one_mul]
      have hnm : (i + 1) * m ≤ n * m := Nat.mul_le_mul_right m hi
      obtain ⟨k, hk⟩ : ∃ k, i * m + j + 1 + k = min ((i + 1) * m + j) (n * m) := ⟨min ((i + 1) * m + j) (n * m) - (i * m + j + 1), by omega⟩
      rw [← hk, fill_skip h0 hx k (by omega) ?_, e2]
      intro r h1 h2
      rw [← e2]
      have hrn : r < n * m := by omega
      have hrk := rank_lt hrn
      by_cases hr : r < (i + 1) * m
      · have : r / m = i := by
          have e : r = i * m + (r - i * m) := by omega
          rw [e]; exact (rank_step (by omega)).1
        rw [this, hri]
        have := hok2.cols (r % m) hrk.2
        omega
      · have e : r = (i + 1) * m + (r - (i + 1) * m) := by omega
        have e3 : r % m = r - (i + 1) * m := by
          have := (rank_step (i := i + 1) (j := r - (i + 1) * m) (show r - (i + 1) * m < m by omega)).2
          rw [← e] at this; exact this
        rw [e3, keepc (r - (i + 1) * m) (by omega)]
        have := hok2.rows (r / m) hrk.1
        omega
    · by_cases e : p = i
      · subst e; exact hri
      · exact keepr p (by omega)
theorem Stair.start {n m : Nat} {x y : List Int} {t0 : Tbl} : Stair n m x y t0 0 0 t0 :=
  ⟨by omega, by omega, by simp [fillTo], fun p hp => by omega, fun q hq => by omega⟩
theorem Stair.done {n m : Nat} {x y : List Int} {t0 t : Tbl} {i j : Nat} (h : Stair n m x y t0 i j t) (h0 : FOk n m x y t0) (hx : ∀ j, j < n → 0 ≤ gi x j ∧ gi x j ≤ 30) (he : i = n ∨ j = m) : t = fillTo m x y t0 (n * m) := by
  have hm1 := h0.ok.m1
  by_cases e : i = n
  · subst e
    have := h.at_
    rw [show min (i * m + j) (i * m) = i * m by omega] at this
    exact this
  · have ej : j = m := by omega
    subst ej
    have hi := h.hi
    have hz : (i + 1) * j ≤ n * j := Nat.mul_le_mul_right j (by omega)
    have hm2 : (i + 1) * j = i * j + j := by rw [Nat.add_mul, Nat.one_mul]
    have ht := h.at_
    rw [show min (i * j + j) (n * j) = i * j + j by omega] at ht
    obtain ⟨k, hk⟩ : ∃ k, i * j + j + k = n * j := ⟨n * j - (i * j + j), by omega⟩
    rw [← hk, fill_skip h0 hx k (by omega) ?_, ← ht]
    intro r h1 h2
    rw [← ht]
    have hrk := rank_lt (show r < n * j by omega)
    rw [h.cols (r % j) hrk.2]
    have := (show FOk n j x y t by rw [ht]; exact fillTo_ok h0 hx _ (by omega)).rows (r / j) hrk.1
    omega

end Go.Proofs.Ytaidoaggmllcfaa
