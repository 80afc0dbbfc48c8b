/- Sums, means, the least sum. -/
import Derived.Test.YtgnjaapjaglleaaT7
namespace Go.Proofs.Ytgnjaapjaglleaa

/-- f 0 + .. + f (n - 1) -/
def sumR (f : Nat → Int) : Nat → Int
  | 0 => 0
  | n + 1 => sumR f n + f n
def gi (l : List Int) (i : Nat) : Int := l[i]?.getD 0
theorem gi_at (l : List Int) (i : Nat) : gi l i = l[i]?.getD 0 := rfl
def sumTo (ws : List Int) (n : Nat) : Int := sumR (gi ws) n
def dotTo (ws P : List Int) (n : Nat) : Int := sumR (fun i => gi ws i * gi P i) n
def sqTo (ws P : List Int) (n : Nat) : Int := sumR (fun i => gi ws i * gi P i * gi P i) n
theorem sumR_bd {f : Nat → Int} {n : Nat} {A B : Int} (h : ∀ i, i < n → A ≤ f i ∧ f i ≤ B) : ∀ k, k ≤ n → k * A ≤ sumR f k ∧ sumR f k ≤ k * B
  | 0, _ => by simp [sumR]
  | k + 1, hk => by
    have ih := sumR_bd h k (by omega)
    have h1 := h k (by omega)
    have e1 : ((k + 1 : Nat) : Int) * A = k * A + A := by rw [show ((k + 1 : Nat) : Int) = (k : Int) + 1 by omega, Int.add_mul, Int.one_mul]
    have e2 : ((k + 1 : Nat) : Int) * B = k * B + B := by rw [show ((k + 1 : Nat) : Int) = (k : Int) + 1 by omega, Int.add_mul, Int.one_mul]
    simp only [sumR]
    omega
theorem sumR_congr {f g : Nat → Int} {n : Nat} (h : ∀ i, i < n → f i = g i) : ∀ k, k ≤ n → sumR f k = sumR g k
  | 0, _ => rfl
  | k + 1, hk => by simp only [sumR]; rw [sumR_congr h k (by omega), h k (by omega)]
theorem sumR_mul (c : Int) (f : Nat → Int) : ∀ k, sumR (fun i => c * f i) k = c * sumR f k
  | 0 => by simp [sumR]
  | k + 1 => by simp only [sumR]; rw [sumR_mul c f k, Int.mul_add]
theorem sumR_add (f g : Nat → Int) : ∀ k, sumR (fun i => f i + g i) k = sumR f k + sumR g k
  | 0 => by simp [sumR]
  | k + 1 => by simp only [sumR]; rw [sumR_add f g k]; omega
theorem sumR_nonneg {f : Nat → Int} {n : Nat} (h : ∀ i, i < n → 0 ≤ f i) : ∀ k, k ≤ n → 0 ≤ sumR f k
  | 0, _ => by simp [sumR]
  | k + 1, hk => by have := sumR_nonneg h k (by omega); have := h k (by omega); simp only [sumR]; omega
theorem sumR_le {f g : Nat → Int} {n : Nat} (h : ∀ i, i < n → f i ≤ g i) : ∀ k, k ≤ n → sumR f k ≤ sumR g k
  | 0, _ => by simp [sumR]
  | k + 1, hk => by have := sumR_le h k (by omega); have := h k (by omega); simp only [sumR]; omega

/-- weights and places of the right sizes -/
structure WP (ws P : List Int) (n : Nat) : Prop where
  w : ∀ j, j < n → 1 ≤ gi ws j ∧ gi ws j ≤ 9
  p : ∀ j, j < n → -1000 ≤ gi P j ∧ gi P j ≤ 1000
theorem mulbd {a b A B : Int} (ha : -A ≤ a ∧ a ≤ A) (hb : -B ≤ b ∧ b ≤ B) : -(A * B) ≤ a * b ∧ a * b ≤ A * B := by
  have hA : 0 ≤ A := by omega
  have hB : 0 ≤ B := by omega
  have h1 : (a * b).natAbs ≤ (A * B).natAbs := by
    rw [Int.natAbs_mul, Int.natAbs_mul]; exact Nat.mul_le_mul (by omega) (by omega)
  have h2 : 0 ≤ A * B := Int.mul_nonneg hA hB
  omega
theorem sq_nonneg' (a : Int) : 0 ≤ a * a := by
  rcases Int.le_total 0 a with h | h
  · exact Int.mul_nonneg h h
  · exact Int.mul_nonneg_of_nonpos_of_nonpos h h
theorem WP.term {ws P : List Int} {n : Nat} (h : WP ws P n) {j : Nat} (hj : j < n) : (-9000 ≤ gi ws j * gi P j ∧ gi ws j * gi P j ≤ 9000) ∧ (0 ≤ gi ws j * gi P j * gi P j ∧ gi ws j * gi P j * gi P j ≤ 9000000) := by
  have h1 := h.w j hj
  have h2 := h.p j hj
  have h3 := mulbd (a := gi ws j) (b := gi P j) (A := 9) (B := 1000) (by omega) (by omega)
  have h4 := mulbd (a := gi ws j * gi P j) (b := gi P j) (A := 9000) (B := 1000) (by omega) (by omega)
  have h5 : 0 ≤ gi ws j * (gi P j * gi P j) := Int.mul_nonneg (by omega) (sq_nonneg' _)
  rw [← Int.mul_assoc] at h5
  omega
theorem WP.bd {ws P : List Int} {n : Nat} (h : WP ws P n) {k : Nat} (hk : k ≤ n) : (k ≤ sumTo ws k ∧ sumTo ws k ≤ k * 9) ∧ (k * (-9000) ≤ dotTo ws P k ∧ dotTo ws P k ≤ k * 9000) ∧ (0 ≤ sqTo ws P k ∧ sqTo ws P k ≤ k * 9000000) := by
  have h1 := sumR_bd (A := 1) (B := 9) (fun i hi => h.w i hi) k hk
  have h2 := sumR_bd (f := fun i => gi ws i * gi P i) (A := -9000) (B := 9000) (fun i hi => (h.term hi).1) k hk
  have h3 := sumR_bd (f := fun i => gi ws i * gi P i * gi P i) (A := 0) (B := 9000000) (fun i hi => (h.term hi).2) k hk
  unfold sumTo dotTo sqTo
  omega
/-- the weighted squares of the distances to p -/
theorem quad_eq (ws P : List Int) (p : Int) : ∀ n, sumR (fun i => gi ws i * ((p - gi P i) * (p - gi P i))) n = sumTo ws n * (p * p) - 2 * p * dotTo ws P n + sqTo ws P n
  | 0 => by simp [sumR, sumTo, dotTo, sqTo]
  | n + 1 => by
    have ih := quad_eq ws P p n
    simp only [sumR, sumTo, dotTo, sqTo] at ih ⊢
    rw [ih]
    generalize sumR (gi ws) n = a
    generalize sumR (fun i => gi ws i * gi P i) n = b
    generalize sumR (fun i => gi ws i * gi P i * gi P i) n = c
    generalize gi ws n = w
    generalize gi P n = q
    grind
theorem cauchy {ws P : List Int} {n : Nat} (h : ∀ j, j < n → 0 ≤ gi ws j) : ∀ k, k ≤ n → 0 ≤ sumTo ws k * sqTo ws P k - dotTo ws P k * dotTo ws P k
  | 0, _ => by simp [sumTo, sqTo, dotTo, sumR]
  | k + 1, hk => by
    have ih := cauchy (P := P) h k (by omega)
    have h1 := quad_eq ws P (gi P k) k
    have h2 : 0 ≤ sumR (fun i => gi ws i * ((gi P k - gi P i) * (gi P k - gi P i))) k := sumR_nonneg (n := k) (fun i hi => Int.mul_nonneg (h i (by omega)) (sq_nonneg' _)) k (Nat.le_refl _)
    have h3 := Int.mul_nonneg (h k (by omega)) h2
    rw [h1] at h3
    simp only [sumTo, sqTo, dotTo, sumR] at ih h3 ⊢
    generalize sumR (gi ws) k = a at *
    generalize sumR (fun i => gi ws i * gi P i) k = b at *
    generalize sumR (fun i => gi ws i * gi P i * gi P i) k = c at *
    generalize gi ws k = w at *
    generalize gi P k = q at *
    have e : (a + w) * (c + w * q * q) - (b + w * q) * (b + w * q) = (a * c - b * b) + w * (a * (q * q) - 2 * q * b + c) := by grind
    omega

/-- the number of units of each load -/
def unitsN (ll : List (List Atom)) : Nat := (totalL (ll[0]?.getD [])).toNat
def meansU (ll : List (List Atom)) (ws : List Int) : List Int := (List.range (unitsN ll)).map fun k => dotTo ws (placesL ll k) ll.length
def meansL (ll : List (List Atom)) (ws : List Int) : List Atom := if weighedErr ll ws = 0 then collectL (meansU ll ws) else []
def varAt (ll : List (List Atom)) (ws : List Int) (k : Nat) : Int := sumTo ws ll.length * sqTo ws (placesL ll k) ll.length - dotTo ws (placesL ll k) ll.length * dotTo ws (placesL ll k) ll.length
def leastTo (ll : List (List Atom)) (ws : List Int) (k : Nat) : Int := sumR (varAt ll ws) k
theorem weighed_ok {ll : List (List Atom)} {ws : List Int} (h : weighedErr ll ws = 0) : OkLoads ll ∧ ws.length = ll.length ∧ ∀ j, j < ll.length → 1 ≤ gi ws j ∧ gi ws j ≤ 9 := by
  unfold weighedErr at h
  by_cases h1 : loadsErr ll = 0
  · rw [if_neg (by simpa using h1)] at h
    obtain ⟨h2, h3⟩ := weightsErr_ok h
    exact ⟨loadsErr_ok h1, h2, fun j hj => h3 j (by omega)⟩
  · rw [if_pos h1] at h; exact absurd h h1
theorem unitsN_bd {ll : List (List Atom)} (h : OkLoads ll) : ((unitsN ll : Nat) : Int) = totalL (ll[0]?.getD []) ∧ unitsN ll ≤ 180 := by
  have h0 := h.pos
  have h1 := load_total (h.load 0 (by omega))
  unfold unitsN
  rw [List.getElem?_eq_getElem (by omega), Option.getD_some]
  omega
theorem wp_of {ll : List (List Atom)} {ws : List Int} (h : OkLoads ll) (hw : ∀ j, j < ll.length → 1 ≤ gi ws j ∧ gi ws j ≤ 9) {k : Nat} (hk : k < unitsN ll) : WP ws (placesL ll k) ll.length :=
  ⟨hw, fun j hj => placesL_bd h (by have := unitsN_bd h; omega) hj⟩
theorem var_bd {ll : List (List Atom)} {ws : List Int} (h : OkLoads ll) (hw : ∀ j, j < ll.length → 1 ≤ gi ws j ∧ gi ws j ≤ 9) {k : Nat} (hk : k < unitsN ll) : 0 ≤ varAt ll ws k ∧ varAt ll ws k ≤ 2025000000 := by
  have hp := wp_of h hw hk
  obtain ⟨h1, h2, h3⟩ := hp.bd (Nat.le_refl _)
  have h5 := h.five
  have h4 := cauchy (ws := ws) (n := ll.length) (P := placesL ll k) (fun j hj => by have := hw j hj; omega) _ (Nat.le_refl _)
  have h6 := sq_nonneg' (dotTo ws (placesL ll k) ll.length)
  have h7 := mulbd (a := sumTo ws ll.length) (b := sqTo ws (placesL ll k) ll.length) (A := 45) (B := 45000000) (by omega) (by omega)
  unfold varAt
  omega
theorem least_bd {ll : List (List Atom)} {ws : List Int} (h : OkLoads ll) (hw : ∀ j, j < ll.length → 1 ≤ gi ws j ∧ gi ws j ≤ 9) {k : Nat} (hk : k ≤ unitsN ll) : 0 ≤ leastTo ll ws k ∧ leastTo ll ws k ≤ 364500000000 := by
  have h1 := sumR_bd (f := varAt ll ws) (A := 0) (B := 2025000000) (fun i hi => var_bd h hw hi) k hk
  have h2 := (unitsN_bd h).2
  unfold leastTo
  omega
theorem meansU_length (ll : List (List Atom)) (ws : List Int) : (meansU ll ws).length = unitsN ll := by simp [meansU]
theorem meansU_take {ll : List (List Atom)} {ws : List Int} {k : Nat} (hk : k < unitsN ll) : (meansU ll ws).take (k + 1) = (meansU ll ws).take k ++ [dotTo ws (placesL ll k) ll.length] := by
  rw [List.take_succ_eq_append_getElem (by rw [meansU_length]; exact hk)]
  simp [meansU]

/-- a fraction in lowest terms; d above 0 -/
def ratN (n d : Int) : Int := n.tdiv (Int.gcd n d)
def ratD (n d : Int) : Int := d.tdiv (Int.gcd n d)
theorem gcd_step (a b : Int) : Int.gcd b (a.tmod b) = Int.gcd a b := by
  rw [Int.gcd, Int.gcd, Int.natAbs_tmod, Nat.gcd_comm a.natAbs b.natAbs, Nat.gcd_rec b.natAbs a.natAbs, Nat.gcd_comm]
theorem tmod_bd {a b M : Int} (ha : -M ≤ a ∧ a ≤ M) (hb : -M ≤ b ∧ b ≤ M) (h0 : b ≠ 0) : -M ≤ a.tmod b ∧ a.tmod b ≤ M ∧ (a.tmod b).natAbs < b.natAbs := by
  have h1 : (a.tmod b).natAbs = a.natAbs % b.natAbs := Int.natAbs_tmod a b
  have h2 : a.natAbs % b.natAbs < b.natAbs := Nat.mod_lt _ (by omega)
  omega
theorem gcd_pos {n d : Int} (hd : d ≠ 0) : 1 ≤ (Int.gcd n d : Int) := by
  have : 0 < Int.gcd n d := Int.gcd_pos_of_ne_zero_right n hd
  omega
theorem tdiv_bd {a b M : Int} (ha : -M ≤ a ∧ a ≤ M) : -M ≤ a.tdiv b ∧ a.tdiv b ≤ M := by
  have h1 : (a.tdiv b).natAbs = a.natAbs / b.natAbs := Int.natAbs_tdiv a b
  have h2 : a.natAbs / b.natAbs ≤ a.natAbs := Nat.div_le_self _ _
  omega
def leastNum (ll : List (List Atom)) (ws : List Int) : Int := if weighedErr ll ws = 0 then ratN (leastTo ll ws (unitsN ll)) (sumTo ws ll.length) else 0
def leastDen (ll : List (List Atom)) (ws : List Int) : Int := if weighedErr ll ws = 0 then ratD (leastTo ll ws (unitsN ll)) (sumTo ws ll.length) else 0
end Go.Proofs.Ytgnjaapjaglleaa
