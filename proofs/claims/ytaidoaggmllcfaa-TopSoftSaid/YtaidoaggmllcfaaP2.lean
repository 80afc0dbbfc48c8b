/- A repaired table is whole; a whole one is not changed. No program in sight. -/
import Derived.Test.YtaidoaggmllcfaaP1
import Derived.Test.YtaidoaggmllcfaaT11
namespace Go.Proofs.Ytaidoaggmllcfaa
open Go.RowKit

def sumF (f : Nat → Int) : Nat → Int
  | 0 => 0
  | k + 1 => sumF f k + f k
theorem sumF_add (f g : Nat → Int) : ∀ k, sumF (fun i => f i + g i) k = sumF f k + sumF g k
  | 0 => rfl
  | k + 1 => by show sumF (fun i => f i + g i) k + (f k + g k) = sumF f k + f k + (sumF g k + g k); rw [sumF_add f g k]; omega
theorem sumF_eq {f g : Nat → Int} : ∀ {k : Nat}, (∀ i, i < k → f i = g i) → sumF f k = sumF g k
  | 0, _ => rfl
  | k + 1, h => by show sumF f k + f k = sumF g k + g k; rw [sumF_eq (fun i hi => h i (by omega)), h k (by omega)]
theorem sumF_sm (l : List Int) : ∀ k, sumF (gi l) k = smTo l k
  | 0 => rfl
  | k + 1 => by show sumF (gi l) k + _ = smTo l k + _; rw [sumF_sm l k]
theorem sumF_zero {f : Nat → Int} : ∀ {k : Nat}, (∀ i, i < k → f i = 0) → sumF f k = 0
  | 0, _ => rfl
  | k + 1, h => by show sumF f k + f k = 0; rw [sumF_zero (fun i hi => h i (by omega)), h k (by omega)]; rfl
theorem sumF_nonneg {f : Nat → Int} : ∀ {k : Nat}, (∀ i, i < k → 0 ≤ f i) → 0 ≤ sumF f k
  | 0, _ => Int.le_refl _
  | k + 1, h => by
    have h1 := sumF_nonneg (f := f) (k := k) (fun i hi => h i (by omega))
    have h2 := h k (by omega)
    show 0 ≤ sumF f k + f k
    omega
theorem sumF_none {f : Nat → Int} {k : Nat} (h : ∀ i, i < k → 0 ≤ f i) (hs : sumF f k = 0) : ∀ i, i < k → f i = 0 := by
  induction k with
  | zero => intro i hi; omega
  | succ k ih =>
    intro i hi
    have h1 := sumF_nonneg (f := f) (k := k) (fun i hi => h i (by omega))
    have h2 := h k (by omega)
    have hs' : sumF f k + f k = 0 := hs
    by_cases e : i = k
    · subst e; omega
    · exact ih (fun i hi => h i (by omega)) (by omega) i (by omega)
theorem sum_exchange {n m : Nat} {lo hi : Int} {t : Tbl} (h : TOk n m lo hi t) : ∀ k, k ≤ n → sumF (fun j => csTo t j k) m = sumF (fun i => sm (row t i)) k
  | 0, _ => sumF_zero (fun _ _ => rfl)
  | k + 1, hk => by
    have e : (fun j => csTo t j (k + 1)) = fun j => csTo t j k + tg t k j := rfl
    rw [e, sumF_add, sum_exchange h k (by omega)]
    show _ + _ = _ + sm (row t k)
    have : sumF (fun j => tg t k j) m = sm (row t k) := by
      unfold sm; rw [h.cols k (by omega)]; exact sumF_sm _ _
    rw [this]
theorem lacks_same {n m : Nat} {x y : List Int} {t : Tbl} (h : TOk n m 0 1000000 t) (hx : x.length = n) (hy : y.length = m) (hs : sm x = sm y) : sumF (lr x t) n = sumF (lc y t) m := by
  have e1 : sumF (fun i => lr x t i + sm (row t i)) n = sumF (fun i => gi x i * 1000) n := sumF_eq (fun i _ => by unfold lr; omega)
  have e2 : sumF (fun j => lc y t j + cs t j) m = sumF (fun j => gi y j * 1000) m := sumF_eq (fun j _ => by unfold lc; omega)
  rw [sumF_add] at e1 e2
  have e3 : sumF (cs t) m = sumF (fun i => sm (row t i)) n := by
    rw [← sum_exchange h n (Nat.le_refl _)]
    exact sumF_eq (fun j _ => cs_n h)
  have k1 : ∀ (l : List Int) k, sumF (fun i => gi l i * 1000) k = smTo l k * 1000 := by
    intro l k
    induction k with
    | zero => rfl
    | succ k ih => show sumF _ k + gi l k * 1000 = (smTo l k + gi l k) * 1000; rw [ih]; omega
  rw [k1] at e1 e2
  have hs' : smTo x n = smTo y m := by unfold sm at hs; rw [hx, hy] at hs; exact hs
  have e4 : sumF (fun i => lr x t i) n = sumF (lr x t) n := rfl
  have e5 : sumF (fun i => lc y t i) m = sumF (lc y t) m := rfl
  have e6 : sumF (fun j => cs t j) m = sumF (cs t) m := rfl
  omega
theorem fill_whole {n m : Nat} {x y : List Int} {t0 : Tbl} (h0 : FOk n m x y t0) (hxb : ∀ j, j < n → 0 ≤ gi x j ∧ gi x j ≤ 30) (hx : x.length = n) (hy : y.length = m) (hs : sm x = sm y) :
    ∀ (k i j : Nat) (t : Tbl), n - i + (m - j) = k → Stair n m x y t0 i j t → (∀ i, i < n → lr x (fillTo m x y t0 (n * m)) i = 0) ∧ ∀ j, j < m → lc y (fillTo m x y t0 (n * m)) j = 0 := by
  intro k
  induction k with
  | zero =>
    intro i j t hk h
    have hin : i = n := by have := h.hi; omega
    have hjm : j = m := by have := h.hj; omega
    have e := h.done h0 hxb (.inl hin)
    rw [← e]
    exact ⟨fun p hp => h.rows p (by omega), fun q hq => h.cols q (by omega)⟩
  | succ k ih =>
    intro i j t hk h
    by_cases he : i = n ∨ j = m
    · have e := h.done h0 hxb he
      have hok := fillTo_ok h0 hxb (n * m) (Nat.le_refl _)
      rw [← e] at hok ⊢
      have hsame := lacks_same hok.ok hx hy hs
      rcases he with he | he
      · have hr : ∀ p, p < n → lr x t p = 0 := fun p hp => h.rows p (by omega)
        rw [sumF_zero hr] at hsame
        exact ⟨hr, sumF_none hok.cols hsame.symm⟩
      · have hc : ∀ q, q < m → lc y t q = 0 := fun q hq => h.cols q (by omega)
        rw [sumF_zero hc] at hsame
        exact ⟨sumF_none hok.rows hsame, hc⟩
    · have hi : i < n := by have := h.hi; omega
      have hj : j < m := by have := h.hj; omega
      obtain ⟨s1, s2⟩ := h.step h0 hxb hi hj
      by_cases hc : lc y (stepF x y t i j) j = 0
      · exact ih i (j + 1) _ (by omega) (s1 hc)
      · exact ih (i + 1) j _ (by omega) (s2 hc)
/-! ### cutting -/
def cutR (n m : Nat) (t : Tbl) (x : List Int) : Tbl := mk n m fun i j => if lr x t i < 0 then shareV (tg t i j) (gi x i) (sm (row t i)) else tg t i j
def cutC (n m : Nat) (t : Tbl) (y : List Int) : Tbl := mk n m fun i j => if lc y t j < 0 then shareV (tg t i j) (gi y j) (cs t j) else tg t i j
theorem row_cutR {n m : Nat} {t : Tbl} {x : List Int} {hi : Int} (h : TOk n m 0 hi t) {i : Nat} (hi' : i < n) : row (cutR n m t x) i = if lr x t i < 0 then row (fitR n m t x) i else row t i := by
  have h1 : (row (cutR n m t x) i).length = m := mk_cols _ hi'
  split
  · next hl =>
    refine list_ext_gi (by rw [h1]; exact (mk_cols _ hi').symm) fun j hj => ?_
    rw [h1] at hj
    show tg (cutR n m t x) i j = tg (fitR n m t x) i j
    unfold cutR fitR
    rw [tg_mk _ hi' hj, tg_mk _ hi' hj, if_pos hl]
  · next hl =>
    refine list_ext_gi (by rw [h1, h.cols i hi']) fun j hj => ?_
    rw [h1] at hj
    show tg (cutR n m t x) i j = tg t i j
    unfold cutR
    rw [tg_mk _ hi' hj, if_neg hl]
theorem cutR_ok {n m : Nat} {t : Tbl} {x : List Int} (h : TOk n m 0 150000 t) (hx : ∀ j, j < n → 0 ≤ gi x j ∧ gi x j ≤ 30) : TOk n m 0 150000 (cutR n m t x) :=
  ⟨h.n1, h.n5, h.m1, h.m5, mk_len _ _ _, fun i hi => mk_cols _ hi, fun i j hi hj => by
    unfold cutR
    rw [tg_mk _ hi hj]
    split
    · have := (fitR_ok h hx).bd i j hi hj
      unfold fitR at this
      rw [tg_mk _ hi hj] at this
      omega
    · exact h.bd i j hi hj⟩
theorem cutR_rows {n m : Nat} {t : Tbl} {x : List Int} (h : TOk n m 0 150000 t) (hx : ∀ j, j < n → 0 ≤ gi x j ∧ gi x j ≤ 30) {i : Nat} (hi : i < n) : 0 ≤ lr x (cutR n m t x) i := by
  unfold lr
  rw [row_cutR h hi]
  split
  · have := (fit_row_sum (l := x) h hi (hx i hi).1).1
    omega
  · next hl => unfold lr at hl; omega
theorem turn_cut {n m : Nat} {lo hi : Int} {t : Tbl} (h : TOk n m lo hi t) (y : List Int) : turnT m n (cutR m n (turnT n m t) y) = cutC n m t y := by
  unfold cutC
  refine mk_eq fun i j hi hj => ?_
  have e : sm (row (turnT n m t) j) = cs t j := by
    unfold sm
    rw [show (row (turnT n m t) j).length = n from mk_cols _ hj, cs_n h]
    exact csTo_sm hj n (Nat.le_refl _)
  have e2 : tg (turnT n m t) j i = tg t i j := tg_mk _ hj hi
  show tg (cutR m n (turnT n m t) y) j i = _
  unfold cutR
  rw [tg_mk _ hj hi, e2]
  unfold lr lc
  rw [e]
theorem cs_turn {n m : Nat} {t : Tbl} {lo hi : Int} (h : TOk n m lo hi t) {j : Nat} (hj : j < m) : sm (row (turnT n m t) j) = cs t j := by
  unfold sm
  rw [show (row (turnT n m t) j).length = n from mk_cols _ hj, cs_n h]
  exact csTo_sm hj n (Nat.le_refl _)
theorem turn_turn {n m : Nat} {t : Tbl} {lo hi : Int} (h : TOk n m lo hi t) : turnT m n (turnT n m t) = t := by
  have : turnT m n (turnT n m t) = mk n m (tg t) := mk_eq fun i j hi hj => tg_mk _ hj hi
  rw [this]; exact mk_of h.len h.cols
theorem cutC_ok {n m : Nat} {t : Tbl} {y : List Int} (h : TOk n m 0 150000 t) (hy : ∀ j, j < m → 0 ≤ gi y j ∧ gi y j ≤ 30) : TOk n m 0 150000 (cutC n m t y) := by
  rw [← turn_cut h y]
  exact turn_ok (cutR_ok (turn_ok h) hy)
theorem cutC_cols {n m : Nat} {t : Tbl} {y : List Int} (h : TOk n m 0 150000 t) (hy : ∀ j, j < m → 0 ≤ gi y j ∧ gi y j ≤ 30) {j : Nat} (hj : j < m) : 0 ≤ lc y (cutC n m t y) j := by
  have h1 := cutR_rows (turn_ok h) hy hj
  have hk := cutC_ok h hy
  have e : turnT n m (cutC n m t y) = cutR m n (turnT n m t) y := by
    rw [← turn_cut h y, turn_turn (cutR_ok (turn_ok h) hy)]
  rw [← e] at h1
  unfold lr at h1
  rw [cs_turn hk hj] at h1
  exact h1
theorem share_le {x y s : Int} (hx : 0 ≤ x ∧ x ≤ s) (hy : y * 1000 ≤ s) : shareV x y s ≤ x := by
  unfold shareV
  split
  · exact hx.1
  · next h =>
    have hs : 0 < s := by omega
    refine Int.ediv_le_of_le_mul hs ?_
    rw [Int.mul_assoc]
    exact Int.mul_le_mul_of_nonneg_left hy hx.1
theorem cutC_rows {n m : Nat} {t : Tbl} {x y : List Int} (h : TOk n m 0 150000 t) {i : Nat} (hi : i < n) (h0 : 0 ≤ lr x t i) : 0 ≤ lr x (cutC n m t y) i := by
  have hle : ∀ k, k ≤ m → smTo (row (cutC n m t y) i) k ≤ smTo (row t i) k := by
    intro k
    induction k with
    | zero => intro _; exact Int.le_refl _
    | succ k ih =>
      intro hk
      rw [smTo_succ, smTo_succ]
      have h1 := ih (by omega)
      have h2 : gi (row (cutC n m t y) i) k ≤ gi (row t i) k := by
        show tg (cutC n m t y) i k ≤ tg t i k
        unfold cutC
        rw [tg_mk _ hi (show k < m by omega)]
        split
        · next hl =>
          have hb := h.bd i k hi (by omega)
          unfold lc at hl
          have hc : tg t i k ≤ cs t k := by rw [cs_n h]; exact csTo_mono h (by omega) n (Nat.le_refl _) i hi
          exact share_le ⟨hb.1, hc⟩ (by omega)
        · exact Int.le_refl _
      omega
  have e1 : sm (row (cutC n m t y) i) = smTo (row (cutC n m t y) i) m := by unfold sm; rw [show (row (cutC n m t y) i).length = m from mk_cols _ hi]
  have e2 : sm (row t i) = smTo (row t i) m := by unfold sm; rw [h.cols i hi]
  have := hle m (Nat.le_refl _)
  unfold lr at h0 ⊢
  omega
/-- the repaired table -/
def repV (n m : Nat) (x y : List Int) (t : Tbl) : Tbl := fillTo m x y (cutC n m (cutR n m t x) y) (n * m)
theorem cut_fok {n m : Nat} {x y : List Int} {t : Tbl} (h : TOk n m 0 150000 t) (hx : ∀ j, j < n → 0 ≤ gi x j ∧ gi x j ≤ 30) (hy : ∀ j, j < m → 0 ≤ gi y j ∧ gi y j ≤ 30) : FOk n m x y (cutC n m (cutR n m t x) y) :=
  ⟨(cutC_ok (cutR_ok h hx) hy).weak (by omega), fun _ hi => cutC_rows (cutR_ok h hx) hi (cutR_rows h hx hi), fun _ hj => cutC_cols (cutR_ok h hx) hy hj⟩
theorem rep_tight {n m : Nat} {x y : List Int} {t : Tbl} (h : TOk n m 0 150000 t) (hx : ∀ j, j < n → 0 ≤ gi x j ∧ gi x j ≤ 30) (hy : ∀ j, j < m → 0 ≤ gi y j ∧ gi y j ≤ 30) : TOk n m 0 30000 (repV n m x y t) :=
  (fillTo_ok (cut_fok h hx hy) hx (n * m) (Nat.le_refl _)).tight hx
theorem rep_whole {n m : Nat} {x y : List Int} {t : Tbl} (h : TOk n m 0 150000 t) (hx : ∀ j, j < n → 0 ≤ gi x j ∧ gi x j ≤ 30) (hy : ∀ j, j < m → 0 ≤ gi y j ∧ gi y j ≤ 30) (hxn : x.length = n) (hyn : y.length = m) (hs : sm x = sm y) :
    (∀ i, i < n → lr x (repV n m x y t) i = 0) ∧ ∀ j, j < m → lc y (repV n m x y t) j = 0 :=
  fill_whole (cut_fok h hx hy) hx hxn hyn hs _ 0 0 _ rfl Stair.start
theorem fill_none {n m : Nat} {x y : List Int} {t : Tbl} (h : TOk n m 0 1000000 t) (h1 : ∀ i, i < n → lr x t i = 0) (h2 : ∀ j, j < m → lc y t j = 0) : ∀ z, z ≤ n * m → fillTo m x y t z = t
  | 0, _ => rfl
  | z + 1, hz => by
    have hr := rank_lt (show z < n * m by omega)
    show stepF x y (fillTo m x y t z) (z / m) (z % m) = t
    rw [fill_none h h1 h2 z (by omega)]
    exact stepF_same h hr.1 hr.2 (by rw [h1 _ hr.1, h2 _ hr.2]; rfl)
theorem rep_same {n m : Nat} {x y : List Int} {t : Tbl} (h : TOk n m 0 150000 t) (h1 : ∀ i, i < n → lr x t i = 0) (h2 : ∀ j, j < m → lc y t j = 0) : repV n m x y t = t := by
  have e1 : cutR n m t x = t := by
    have : cutR n m t x = mk n m (tg t) := mk_eq fun i j hi hj => by rw [if_neg (by rw [h1 i hi]; omega)]
    rw [this]; exact mk_of h.len h.cols
  have e2 : cutC n m t y = t := by
    have : cutC n m t y = mk n m (tg t) := mk_eq fun i j hi hj => by rw [if_neg (by rw [h2 j hj]; omega)]
    rw [this]; exact mk_of h.len h.cols
  unfold repV
  rw [e1, e2]
  exact fill_none (h.weak (by omega)) h1 h2 _ (Nat.le_refl _)
theorem absTo_none {l : List Int} (h : ∀ j, j < l.length → gi l j = 0) : ∀ k, k ≤ l.length → absTo l k = 0
  | 0, _ => rfl
  | k + 1, hk => by rw [absTo_succ, absTo_none h k (by omega), h k (by omega)]; rfl
theorem lacks_none {n m : Nat} {x y : List Int} {t : Tbl} (h1 : ∀ i, i < n → lr x t i = 0) (h2 : ∀ j, j < m → lc y t j = 0) : absL (lacksL x y t n m) = 0 := by
  unfold absL
  refine absTo_none (fun j hj => ?_) _ (Nat.le_refl _)
  rw [lacksL_len] at hj
  unfold lacksL
  by_cases hjn : j < n
  · rw [gi_app1 (by rw [lackR_len]; exact hjn), gi_lackR hjn]; exact h1 j hjn
  · rw [gi_app2 (by rw [lackR_len]; exact hjn), lackR_len, gi_lackC (by omega)]; exact h2 (j - n) (by omega)
theorem grErr_of {x y : List Int} {t : Tbl} (h1 : massB x = true) (h2 : massB y = true) (h3 : sm x = sm y) (h : TOk x.length y.length 0 150000 t) : grErr x y t = 0 := by
  have h0 := h.cols 0 (by have := h.n1; omega)
  have hg : grB x y t = true := by
    unfold grB
    rw [tabB_of h]
    simp [h.len, h0]
  unfold grErr
  rw [h1, h2, hg]
  simp [h3, errOf]

end Go.Proofs.Ytaidoaggmllcfaa
