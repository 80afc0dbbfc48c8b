/- Plain words of a transport and of wide nets. -/
import Derived.Test.YtbejgbflipoboaaP2
/- Plain words of a transport, told as a net: rows to columns. No program in sight. -/
namespace Go.Proofs.Ytbejgbflipoboaa

theorem sumN_app (f : Nat → Int) (a : Nat) : ∀ b, sumN f (a + b) = sumN f a + sumN (fun i => f (a + i)) b
  | 0 => by simp [sumN]
  | b + 1 => by
    show sumN f (a + b) + f (a + b) = _
    rw [sumN_app f a b]; simp only [sumN]; omega
theorem div_at {m i j : Nat} (h : j < m) : (i * m + j) / m = i ∧ (i * m + j) % m = j := by
  constructor
  · rw [Nat.mul_comm, Nat.mul_add_div (by omega), Nat.div_eq_of_lt h]; omega
  · rw [Nat.mul_comm, Nat.mul_add_mod, Nat.mod_eq_of_lt h]
theorem at_div {m k n : Nat} (h : k < n * m) : k / m < n ∧ k % m < m ∧ k / m * m + k % m = k := by
  have hm : 0 < m := Nat.pos_of_ne_zero fun e => by subst e; simp at h
  exact ⟨(Nat.div_lt_iff_lt_mul hm).2 h, Nat.mod_lt _ hm, by rw [Nat.mul_comm]; exact Nat.div_add_mod k m⟩
theorem lt_at {n m i j : Nat} (hi : i < n) (hj : j < m) : i * m + j < n * m := by
  have := Nat.mul_le_mul_right m (show i + 1 ≤ n from hi)
  rw [Nat.add_mul, Nat.one_mul] at this
  omega
theorem sumN_rows (F : Nat → Nat → Int) {m : Nat} : ∀ n, sumN (fun k => F (k / m) (k % m)) (n * m) = sumN (fun i => sumN (F i) m) n
  | 0 => by simp [sumN]
  | n + 1 => by
    rw [Nat.add_mul, Nat.one_mul, sumN_app, sumN_rows F n]
    simp only [sumN]
    congr 1
    exact sumN_congr fun j hj => by rw [(div_at hj).1, (div_at hj).2]
theorem one_comm (a b : Nat) : one a b = one b a := by unfold one; by_cases h : a = b; rw [if_pos h, if_pos h.symm]; rw [if_neg h, if_neg (fun e => h e.symm)]
def netT (n m : Nat) (c : Nat → Nat → Int) (W : Int) : NetG := ⟨n * m, fun k => k / m, fun k => n + k % m, fun k => c (k / m) (k % m), fun _ => W⟩
def flowT (m : Nat) (P : Nat → Nat → Int) (k : Nat) : Int := P (k / m) (k % m)
theorem netT_fine (n m : Nat) (c : Nat → Nat → Int) (W : Int) : (netT n m c W).Fine (n + m) := fun k hk => by
  obtain ⟨h1, h2, _⟩ := at_div (show k < n * m from hk)
  exact ⟨by show k / m < _; omega, by show n + k % m < _; omega⟩
section
variable {n m : Nat} {c P Q : Nat → Nat → Int} {W : Int}
theorem sumN_dist (f : Nat → Int) (x : Int) (n : Nat) : sumN (fun i => f i * x) n = sumN f n * x := by
  rw [sumN_congr (g := fun i => x * f i) (fun i _ => Int.mul_comm _ _), sumN_mul, Int.mul_comm]
theorem out_row {i : Nat} (hi : i < n) : (netT n m c W).out (flowT m P) i = sumN (P i) m := by
  show sumN (fun k => P (k / m) (k % m) * (one (k / m) i - one (n + k % m) i)) (n * m) = _
  rw [sumN_rows (fun p q => P p q * (one p i - one (n + q) i)) n]
  rw [sumN_congr (g := fun p => sumN (P p) m * one i p) (fun p _ => by
    rw [← sumN_dist]
    refine sumN_congr fun q _ => ?_
    rw [one_comm p i]
    have : one (n + q) i = 0 := by unfold one; rw [if_neg (by omega)]
    rw [this]; simp)]
  exact sum_one _ hi
theorem out_col {j : Nat} (hj : j < m) : (netT n m c W).out (flowT m P) (n + j) = -sumN (fun i => P i j) n := by
  show sumN (fun k => P (k / m) (k % m) * (one (k / m) (n + j) - one (n + k % m) (n + j))) (n * m) = _
  rw [sumN_rows (fun p q => P p q * (one p (n + j) - one (n + q) (n + j))) n]
  rw [sumN_congr (g := fun p => (-1) * P p j) (fun p hp => by
    rw [sumN_congr (g := fun q => (-1 * P p q) * one j q) (fun q _ => by
      have e1 : one p (n + j) = 0 := by unfold one; rw [if_neg (by omega)]
      have e2 : one (n + q) (n + j) = one j q := by
        unfold one
        by_cases h : j = q
        · rw [if_pos h, if_pos (by omega)]
        · rw [if_neg h, if_neg (by omega)]
      rw [e1, e2]
      generalize one j q = z
      grind)]
    rw [sum_one (fun q => -1 * P p q) hj])]
  rw [sumN_mul]; omega
theorem cost_T : (netT n m c W).cost (flowT m P) = sumN (fun i => sumN (fun j => c i j * P i j) m) n := by
  show sumN (fun k => c (k / m) (k % m) * P (k / m) (k % m)) (n * m) = _
  exact sumN_rows (fun p q => c p q * P p q) n
/-! plans and prices -/
/-- a plan between masses -/
structure PlanT (n m : Nat) (a b : Nat → Int) (P : Nat → Nat → Int) : Prop where
  pos : ∀ i j, i < n → j < m → 0 ≤ P i j
  rows : ∀ i, i < n → sumN (P i) m = a i
  cols : ∀ j, j < m → sumN (fun i => P i j) n = b j
def costT (n m : Nat) (c P : Nat → Nat → Int) : Int := sumN (fun i => sumN (fun j => c i j * P i j) m) n
def worthT (n m : Nat) (a b u v : Nat → Int) : Int := sumN (fun i => a i * u i) n + sumN (fun j => b j * v j) m
theorem worth_plan {a b u v : Nat → Int} (h : PlanT n m a b P) : worthT n m a b u v = costT n m (fun i j => u i + v j) P := by
  unfold worthT costT
  have e : ∀ i, sumN (fun j => (u i + v j) * P i j) m = sumN (P i) m * u i + sumN (fun j => v j * P i j) m := fun i => by
    rw [← sumN_dist, ← sumN_add]
    exact sumN_congr fun j _ => by grind
  rw [sumN_congr (fun i _ => e i), sumN_add]
  rw [sumN_swap (fun i j => v j * P i j) m n]
  congr 1
  · exact sumN_congr fun i hi => by rw [h.rows i hi]
  · refine sumN_congr fun j hj => ?_
    rw [sumN_mul, h.cols j hj, Int.mul_comm]
theorem costT_le {c d : Nat → Nat → Int} (h : ∀ i j, i < n → j < m → c i j * P i j ≤ d i j * P i j) : costT n m c P ≤ costT n m d P :=
  sumN_le fun i hi => sumN_le fun j hj => h i j hi hj
theorem costT_eq {c d : Nat → Nat → Int} (h : ∀ i j, i < n → j < m → c i j * P i j = d i j * P i j) : costT n m c P = costT n m d P :=
  sumN_congr fun i hi => sumN_congr fun j hj => h i j hi hj
/-- prices that hold are worth no more than any plan costs -/
theorem worth_le {a b u v : Nat → Int} (h : PlanT n m a b P) (hp : ∀ i j, i < n → j < m → u i + v j ≤ c i j) : worthT n m a b u v ≤ costT n m c P := by
  rw [worth_plan h]
  exact costT_le fun i j hi hj => Int.mul_le_mul_of_nonneg_right (hp i j hi hj) (h.pos i j hi hj)
/-- .. and as much where they are tight -/
theorem worth_eq {a b u v : Nat → Int} (h : PlanT n m a b P) (hp : ∀ i j, i < n → j < m → 0 < P i j → u i + v j = c i j) : worthT n m a b u v = costT n m c P := by
  rw [worth_plan h]
  refine costT_eq fun i j hi hj => ?_
  have := h.pos i j hi hj
  by_cases h0 : 0 < P i j
  · rw [hp i j hi hj h0]
  · rw [show P i j = 0 by omega]; omega
/-- a part of a plan, with prices that prove it -/
structure PartT (n m : Nat) (c : Nat → Nat → Int) (a b : Nat → Int) (P : Nat → Nat → Int) : Prop where
  pos : ∀ i j, i < n → j < m → 0 ≤ P i j
  rows : ∀ i, i < n → sumN (P i) m ≤ a i
  cols : ∀ j, j < m → sumN (fun i => P i j) n ≤ b j
  pot : ∃ u v : Nat → Int, ∀ i j, i < n → j < m → u i + v j ≤ c i j ∧ (0 < P i j → u i + v j = c i j)
theorem PartT.zero {a b : Nat → Int} (hc : ∀ i j, i < n → j < m → 0 ≤ c i j) (ha : ∀ i, i < n → 0 ≤ a i) (hb : ∀ j, j < m → 0 ≤ b j) : PartT n m c a b (fun _ _ => 0) :=
  ⟨fun _ _ _ _ => Int.le_refl _, fun i hi => by rw [sumN_zero]; exact ha i hi, fun j hj => by rw [sumN_zero]; exact hb j hj, fun _ => 0, fun _ => 0, fun i j hi hj => ⟨by have := hc i j hi hj; show (0 : Int) + 0 ≤ _; omega, fun h => absurd h (by omega)⟩⟩
def colsLeft (n m : Nat) (b : Nat → Int) (P : Nat → Nat → Int) : Int := sumN (fun j => b j - sumN (fun i => P i j) n) m
theorem total_rows (P : Nat → Nat → Int) : sumN (fun i => sumN (P i) m) n = sumN (fun j => sumN (fun i => P i j) n) m := sumN_swap P m n
/-- nothing left of the columns: it is a plan -/
theorem PartT.full {a b : Nat → Int} (h : PartT n m c a b P) (hab : sumN a n = sumN b m) (h0 : ∀ j, j < m → ¬ 0 < b j - sumN (fun i => P i j) n) : PlanT n m a b P := by
  have hc : ∀ j, j < m → sumN (fun i => P i j) n = b j := fun j hj => by have := h.cols j hj; have := h0 j hj; omega
  have h1 : sumN (fun i => a i - sumN (P i) m) n = 0 := by
    have e := sumN_add (fun i => a i - sumN (P i) m) (fun i => sumN (P i) m) n
    rw [sumN_congr (g := a) (fun i _ => by omega), total_rows, sumN_congr (f := fun j => sumN (fun i => P i j) n) (g := b) hc] at e
    omega
  exact ⟨h.pos, fun i hi => by have := sumN_all0 (f := fun i => a i - sumN (P i) m) (n := n) (fun i hi => by have := h.rows i hi; omega) (by omega) i hi; omega, hc⟩
def potT (n : Nat) (u p : Nat → Int) (v : Nat) : Int := if v < n then -u v else p (v - n)
theorem potT_row {n v : Nat} (u p : Nat → Int) (h : v < n) : potT n u p v = -u v := if_pos h
theorem potT_col (n : Nat) (u p : Nat → Int) (j : Nat) : potT n u p (n + j) = p j := by unfold potT; rw [if_neg (by omega), show n + j - n = j by omega]
/-- prices of a flow of the net -/
theorem part_ship {a b : Nat → Int} (hW : ∀ i j, i < n → j < m → P i j < W) (h : PartT n m c a b P) :
    ShipInv (netT n m c W) (n + m) (fun v => if v < n then a v else -b (v - n)) (flowT m P) (fun v => if v < n then a v - sumN (P v) m else -(b (v - n) - sumN (fun i => P i (v - n)) n)) := by
  refine ⟨fun k hk => ?_, fun v hv => ?_, ?_⟩
  · obtain ⟨h1, h2, _⟩ := at_div (show k < n * m from hk)
    exact ⟨h.pos _ _ h1 h2, Int.le_of_lt (hW _ _ h1 h2)⟩
  · by_cases hn : v < n
    · rw [out_row hn, if_pos hn, if_pos hn]; omega
    · obtain ⟨j, rfl⟩ : ∃ j, v = n + j := ⟨v - n, by omega⟩
      rw [out_col (by omega), if_neg hn, if_neg hn, show n + j - n = j by omega]; omega
  · obtain ⟨u, p, hp⟩ := h.pot
    refine ⟨potT n u p, fun s hs => ?_⟩
    obtain ⟨h1, h2⟩ := hs
    obtain ⟨d1, d2, d3⟩ := at_div (show eNo s < n * m from eNo_lt h1)
    have h3 := hp _ _ d1 d2
    simp only [NetG.arcs, netT]
    split at h2
    · rename_i hneg
      have h4 := h3.2 h2
      rw [if_pos hneg, if_pos hneg, if_pos hneg, potT_row _ _ d1, potT_col]; omega
    · rename_i hneg
      rw [if_neg hneg, if_neg hneg, if_neg hneg, potT_row _ _ d1, potT_col]; omega
theorem ship_part {a b x l : Nat → Int} (h : ShipInv (netT n m c W) (n + m) x (flowT m P) l) (hW : ∀ i j, i < n → j < m → P i j < W) (hx : ∀ i, i < n → x i = a i) (hy : ∀ j, j < m → x (n + j) = -b j) (hl : ∀ i, i < n → 0 ≤ l i) (hl2 : ∀ j, j < m → l (n + j) ≤ 0) : PartT n m c a b P := by
  have e1 : ∀ i, i < n → sumN (P i) m + l i = a i := fun i hi => by have := h.out i (by omega); rw [out_row hi, hx i hi] at this; exact this
  have e2 : ∀ j, j < m → -sumN (fun i => P i j) n + l (n + j) = -b j := fun j hj => by have := h.out (n + j) (by omega); rw [out_col hj, hy j hj] at this; exact this
  refine ⟨fun i j hi hj => ?_, fun i hi => ?_, fun j hj => ?_, ?_⟩
  · have := (h.fs (i * m + j) (lt_at hi hj)).1
    unfold flowT at this
    rwa [(div_at hj).1, (div_at hj).2] at this
  · have := e1 i hi; have := hl i hi; omega
  · have := e2 j hj; have := hl2 j hj; omega
  · obtain ⟨p, hp⟩ := h.pot
    refine ⟨fun i => -p i, fun j => p (n + j), fun i j hi hj => ?_⟩
    have hk := lt_at hi hj
    obtain ⟨d1, d2⟩ := div_at (i := i) hj
    have h1 := hp _ (ok_pos (G := netT n m c W) (f := flowT m P) hk (by show P ((i * m + j) / m) ((i * m + j) % m) < W; rw [d1, d2]; exact hW i j hi hj))
    simp only [NetG.arcs, netT, eNo_pos] at h1
    rw [if_neg (by omega), if_neg (by omega), if_neg (by omega), d1, d2] at h1
    show -p i + p (n + j) ≤ c i j ∧ (0 < P i j → -p i + p (n + j) = c i j)
    refine ⟨by omega, fun h0 => ?_⟩
    have h2 := hp _ (ok_neg (G := netT n m c W) (f := flowT m P) hk (by show 0 < P ((i * m + j) / m) ((i * m + j) % m); rw [d1, d2]; exact h0))
    simp only [NetG.arcs, netT, eNo_neg] at h2
    rw [if_pos (by omega), if_pos (by omega), if_pos (by omega), d1, d2] at h2
    omega
end
end Go.Proofs.Ytbejgbflipoboaa

/- Plain words of wide nets: the cheapest plan by the distances, and the cheapest flow. No program in sight. -/
namespace Go.Proofs.Ytbejgbflipoboaa

/-- how far the nodes are from one, where they are reached -/
structure DistOf (G : NetG) (N s : Nat) (rch : Nat → Prop) (d : Nat → Int) : Prop where
  start : rch s ∧ d s = 0
  tri : ∀ k, k < G.K → rch (G.fr k) → rch (G.to k) ∧ d (G.to k) ≤ d (G.fr k) + G.ln k
  low : ∀ p : Nat → Int, (∀ k, k < G.K → p (G.to k) ≤ p (G.fr k) + G.ln k) → ∀ y, y < N → rch y → p y ≤ p s + d y
section
variable {G : NetG} {N : Nat}
/-- prices of nodes that hold for all roads: no flow costs less than what they make of its excess -/
theorem flow_ge (hG : G.Fine N) {g x p : Nat → Int} (hg : ∀ k, k < G.K → 0 ≤ g k) (hx : ∀ v, v < N → G.out g v = x v) (hp : ∀ k, k < G.K → p (G.to k) ≤ p (G.fr k) + G.ln k) : -sumN (fun v => p v * x v) N ≤ G.cost g := by
  have h1 := sum_out hG p g
  rw [sumN_congr (g := fun v => p v * x v) (fun v hv => by rw [hx v hv])] at h1
  rw [h1]
  unfold NetG.cost
  have h2 : -sumN (fun k => g k * (p (G.fr k) - p (G.to k))) G.K = sumN (fun k => g k * (p (G.to k) - p (G.fr k))) G.K := by
    rw [show (fun k => g k * (p (G.to k) - p (G.fr k))) = fun k => (-1) * (g k * (p (G.fr k) - p (G.to k))) from funext fun k => by grind, sumN_mul]; omega
  rw [h2]
  refine sumN_le fun k hk => ?_
  have h3 := hp k hk
  have h4 : g k * (p (G.to k) - p (G.fr k)) ≤ g k * G.ln k := Int.mul_le_mul_of_nonneg_left (by omega) (hg k hk)
  rw [Int.mul_comm (G.ln k)]
  exact h4
theorem flow_eq (hG : G.Fine N) {g x p : Nat → Int} (hg : ∀ k, k < G.K → 0 ≤ g k) (hx : ∀ v, v < N → G.out g v = x v) (hp : ∀ k, k < G.K → 0 < g k → p (G.to k) = p (G.fr k) + G.ln k) : G.cost g = -sumN (fun v => p v * x v) N := by
  have h1 := sum_out hG p g
  rw [sumN_congr (g := fun v => p v * x v) (fun v hv => by rw [hx v hv])] at h1
  rw [h1]
  unfold NetG.cost
  have h2 : -sumN (fun k => g k * (p (G.fr k) - p (G.to k))) G.K = sumN (fun k => g k * (p (G.to k) - p (G.fr k))) G.K := by
    rw [show (fun k => g k * (p (G.to k) - p (G.fr k))) = fun k => (-1) * (g k * (p (G.fr k) - p (G.to k))) from funext fun k => by grind, sumN_mul]; omega
  rw [h2]
  refine sumN_congr fun k hk => ?_
  have h3 := hg k hk
  by_cases h0 : 0 < g k
  · rw [hp k hk h0, Int.mul_comm]; congr 1; omega
  · rw [show g k = 0 by omega]; omega
/-- the nodes where there is too much, and those where there is too little -/
structure Ends (N n m : Nat) (x : Nat → Int) (fr to : Nat → Nat) (a b : Nat → Int) : Prop where
  frN : ∀ i, i < n → fr i < N
  toN : ∀ j, j < m → to j < N
  sum : ∀ p : Nat → Int, sumN (fun v => p v * x v) N = sumN (fun i => a i * p (fr i)) n - sumN (fun j => b j * p (to j)) m
  apos : ∀ i, i < n → 0 ≤ a i
  bpos : ∀ j, j < m → 0 ≤ b j
/-- a price of nodes: the distance from the nearest beginning, told with its price -/
def nearP (d : Nat → Nat → Int) (rch : Nat → Nat → Bool) (u : Nat → Int) (big : Int) (y : Nat) : Nat → Int
  | 0 => big
  | i + 1 => if rch i y ∧ d i y - u i < nearP d rch u big y i then d i y - u i else nearP d rch u big y i
theorem nearP_le (d : Nat → Nat → Int) (rch : Nat → Nat → Bool) (u : Nat → Int) (big : Int) (y : Nat) : ∀ n, nearP d rch u big y n ≤ big ∧ ∀ i, i < n → rch i y → nearP d rch u big y n ≤ d i y - u i
  | 0 => ⟨Int.le_refl _, fun i h => by omega⟩
  | n + 1 => by
    obtain ⟨h1, h2⟩ := nearP_le d rch u big y n
    simp only [nearP]
    split
    · rename_i h
      refine ⟨by omega, fun i hi hr => ?_⟩
      rcases Nat.lt_succ_iff_lt_or_eq.1 hi with hi | rfl
      · have := h2 i hi hr; omega
      · exact Int.le_refl _
    · rename_i h
      refine ⟨h1, fun i hi hr => ?_⟩
      rcases Nat.lt_succ_iff_lt_or_eq.1 hi with hi | rfl
      · exact h2 i hi hr
      · exact Int.not_lt.1 fun h3 => h ⟨hr, h3⟩
theorem nearP_some (d : Nat → Nat → Int) (rch : Nat → Nat → Bool) (u : Nat → Int) (big : Int) (y : Nat) : ∀ n, nearP d rch u big y n = big ∨ ∃ i, i < n ∧ rch i y ∧ nearP d rch u big y n = d i y - u i
  | 0 => .inl rfl
  | n + 1 => by
    simp only [nearP]
    split
    · rename_i h; exact .inr ⟨n, by omega, h.1, rfl⟩
    · rcases nearP_some d rch u big y n with h | ⟨i, h1, h2, h3⟩
      · exact .inl h
      · exact .inr ⟨i, by omega, h2, h3⟩
/-- prices of a plan by the distances are worth no more than any flow costs -/
theorem dist_ge (hG : G.Fine N) (hln : ∀ k, k < G.K → 0 ≤ G.ln k) {n m : Nat} {x : Nat → Int} {fr to : Nat → Nat} {a b : Nat → Int} (hE : Ends N n m x fr to a b) {rch : Nat → Nat → Bool} {d : Nat → Nat → Int} (hd : ∀ i, i < n → DistOf G N (fr i) (fun y => rch i y) (d i))
    {u v : Nat → Int} (hp : ∀ i j, i < n → j < m → u i + v j ≤ d i (to j)) {g : Nat → Int} (hg : ∀ k, k < G.K → 0 ≤ g k) (hx : ∀ v, v < N → G.out g v = x v) {big : Int} (hbig : ∀ j, j < m → v j ≤ big) : worthT n m a b u v ≤ G.cost g := by
  have h1 := flow_ge hG hg hx (p := fun y => nearP d rch u big y n) (fun k hk => by
    rcases nearP_some d rch u big (G.fr k) n with h | ⟨i, h2, h3, h4⟩
    · have := (nearP_le d rch u big (G.to k) n).1
      have := hln k hk
      omega
    · obtain ⟨h5, h6⟩ := (hd i h2).tri k hk h3
      have := (nearP_le d rch u big (G.to k) n).2 i h2 h5
      omega)
  rw [hE.sum] at h1
  refine Int.le_trans ?_ h1
  have h2 : sumN (fun i => a i * nearP d rch u big (fr i) n) n ≤ sumN (fun i => a i * (-u i)) n := sumN_le fun i hi => by
    refine Int.mul_le_mul_of_nonneg_left ?_ (hE.apos i hi)
    have := (nearP_le d rch u big (fr i) n).2 i hi (hd i hi).start.1
    rw [(hd i hi).start.2] at this
    omega
  have h3 : sumN (fun j => b j * v j) m ≤ sumN (fun j => b j * nearP d rch u big (to j) n) m := sumN_le fun j hj => by
    refine Int.mul_le_mul_of_nonneg_left ?_ (hE.bpos j hj)
    rcases nearP_some d rch u big (to j) n with h | ⟨i, h4, h5, h6⟩
    · rw [h]; exact hbig j hj
    · have := hp i j h4 hj
      omega
  have h4 : sumN (fun i => a i * (-u i)) n = -sumN (fun i => a i * u i) n := by
    rw [show (fun i => a i * (-u i)) = fun i => (-1) * (a i * u i) from funext fun i => by grind, sumN_mul]; omega
  unfold worthT
  omega
/-! the net with wider roads -/
def wideN (G : NetG) (W : Int) : NetG := ⟨G.K, G.fr, G.to, G.ln, fun _ => W⟩
def stepsW (f : Nat → Int) : Nat → List Int
  | 0 => []
  | k + 1 => stepsW f k ++ (((k : Int) + 1) :: if 0 < f k then [-(k : Int) - 1] else [])
theorem stepsW_mem (f : Nat → Int) : ∀ K s, s ∈ stepsW f K ↔ (1 ≤ max s (-s) ∧ max s (-s) ≤ K) ∧ (s < 0 → 0 < f (eNo s))
  | 0, s => by simp only [stepsW, List.not_mem_nil, false_iff]; omega
  | K + 1, s => by
    simp only [stepsW, List.mem_append, List.mem_cons, stepsW_mem f K s]
    have hn : ∀ t : Int, t ∈ (if 0 < f K then [-(K : Int) - 1] else []) ↔ t = -(K : Int) - 1 ∧ 0 < f K := fun t => by split <;> simp [*]
    rw [hn]
    constructor
    · rintro (⟨⟨h1, h2⟩, h3⟩ | h | ⟨h, h3⟩)
      · exact ⟨⟨h1, by omega⟩, h3⟩
      · subst h; exact ⟨⟨by omega, by omega⟩, fun h => by omega⟩
      · subst h; refine ⟨⟨by omega, by omega⟩, fun _ => ?_⟩; rw [eNo_neg]; exact h3
    · rintro ⟨⟨h1, h2⟩, h3⟩
      by_cases e : max s (-s) ≤ K
      · exact .inl ⟨⟨h1, e⟩, h3⟩
      · by_cases e2 : s < 0
        · have : s = -(K : Int) - 1 := by omega
          refine .inr (.inr ⟨this, ?_⟩)
          have := h3 e2
          rwa [‹s = -(K : Int) - 1›, eNo_neg] at this
        · exact .inr (.inl (by omega))
theorem stepsW_steps {W : Int} {f : Nat → Int} (hW : ∀ k, k < G.K → f k < W) : (wideN G W).Steps f (stepsW f G.K) := fun s => by
  rw [stepsW_mem]
  constructor
  · rintro ⟨h1, h2⟩
    refine ⟨h1, ?_⟩
    split
    · rename_i h; exact h2 h
    · exact hW _ (eNo_lt (G := wideN G W) h1)
  · rintro ⟨h1, h2⟩
    refine ⟨h1, fun h => ?_⟩
    rw [if_pos h] at h2; exact h2
theorem turnsW_le {f : Nat → Int} : ∀ (l : List Int), (l.map eNo).Nodup → ∀ k, turnsG f l k ≤ f k + 1 := fun l hn k => by
  by_cases hm : k ∈ l.map eNo
  · obtain ⟨s, hs, rfl⟩ := List.mem_map.1 hm
    rw [turnsG_at l f hn s hs]
    unfold sg; split <;> omega
  · rw [turnsG_other l f k hm]; omega
/-- after k units no road bears more than k -/
theorem wide_ship (hG : G.Fine N) {W K : Int} (hln : ∀ k, k < G.K → 0 ≤ G.ln k ∧ G.ln k ≤ K) (hK : 0 ≤ K) {x g : Nat → Int} (hsum : sumN x N = 0) (hg : (wideN G W).Fs g) (hx : ∀ v, v < N → G.out g v = x v) (hW : over x N < W) :
    ∀ k : Nat, (k : Int) ≤ over x N → ∃ f l, ShipInv (wideN G W) N x f l ∧ (∀ e, e < G.K → f e ≤ k) ∧ over l N = over x N - k ∧ sumN l N = 0
  | 0, _ => by
    have h0 := over_nonneg x N
    exact ⟨fun _ => 0, x, ship_zero x (fun _ _ => by show 0 ≤ W; omega) (fun k hk => (hln k hk).1), fun e _ => by show (0 : Int) ≤ 0; omega, by omega, hsum⟩
  | k + 1, hk => by
    obtain ⟨f, l, hS, hf, ho, hs0⟩ := wide_ship hG hln hK hsum hg hx hW k (by omega)
    have hG' : (wideN G W).Fine N := hG
    have hfW : ∀ e, e < G.K → f e < W := fun e he => by have := hf e he; omega
    have hL := stepsW_steps (G := G) (W := W) hfW
    have hin := steps_in hG' hL
    obtain ⟨p, hp⟩ := hS.pot
    have hpot := pot_of hL hp
    have hfar : (0 : Int) ≤ (N : Int) * K := Int.mul_nonneg (by omega) hK
    have hE := reach_end (A := (wideN G W).arcs) (far := N * K + 1) (first := fun v => if l v ≤ 0 then (N : Int) * K + 1 else 0) hin hpot (fun v hv => by split <;> omega) 0
    generalize (wideN G W).arcs.reach (N * K + 1) (stepsW f G.K) ⟨fun v => if l v ≤ 0 then (N : Int) * K + 1 else 0, fun _ => none, 0⟩ N = lb at *
    have hlnL : ∀ s ∈ stepsW f G.K, -K ≤ (wideN G W).arcs.ln s ∧ (wideN G W).arcs.ln s ≤ K := fun s hs => by
      have h1 := hln _ (eNo_lt (G := wideN G W) ((hL s).1 hs).1)
      simp only [NetG.arcs, wideN]
      split <;> omega
    have hfirst : ∀ v, v < N → (if l v ≤ 0 then (N : Int) * K + 1 else 0) = N * K + 1 ∨ ((if l v ≤ 0 then (N : Int) * K + 1 else 0) = 0 ∧ 0 < l v) := fun v _ => by split <;> omega
    have hpos : ∃ a, a < N ∧ 0 < l a := Classical.byContradiction fun hno => by
      have h1 : over l N = 0 := by
        unfold over
        rw [sumN_congr (g := fun _ => 0) (fun v hv => by have : ¬ 0 < l v := fun h => hno ⟨v, hv, h⟩; omega), sumN_zero]
      omega
    obtain ⟨a, ha, hla⟩ := hpos
    by_cases hb : ∃ v, v < N ∧ l v < 0 ∧ lb.at_ v < N * K + 1
    · obtain ⟨v, hv, hlv, hat⟩ := hb
      obtain ⟨c, r, h1, h2, h3, h4, h5⟩ := ship_more hG' hS hL hpot hE hK hlnL (by omega) hfirst hv hat
      have hedge : ∀ v, v < N → ∀ s, lb.by_ v = some s → s ∈ stepsW f G.K ∧ (wideN G W).arcs.to s = v ∧ (wideN G W).arcs.fr s < N := fun v hv s hs => by
        obtain ⟨q1, q2, _⟩ := hE.edge v hv s hs
        exact ⟨q1, q2, (hin s q1).1⟩
      have hnd := chn_roads hL hedge h1 hv
      refine ⟨_, _, h5, fun e he => ?_, ?_, ?_⟩
      · have := turnsW_le (f := f) c hnd e
        have := hf e he
        omega
      · rw [over_step hlv h3 h2]; omega
      · have e1 := sumN_add (fun w => l w + one v w) (fun w => (-1) * (1 * one r w)) N
        rw [sumN_congr (g := fun w => l w + one v w - one r w) (fun w _ => by omega), sumN_add, sumN_mul, sum_one (fun _ => 1) h2] at e1
        have e2 := sum_one (fun _ => 1) hv
        rw [sumN_congr (g := one v) (fun w _ => by omega)] at e2
        omega
    · have hdam := ship_stuck hG' hS hL hE hK hlnL (by omega) hfirst (fun v hv hlv hat => hb ⟨v, hv, hlv, hat⟩) ha (by rw [if_neg (by omega)])
      exact absurd hx (dam_none hG' hdam hg)
/-- where all roads are wider than all that moves, a plan by the distances costs as much as a cheapest flow -/
theorem wide_le (hG : G.Fine N) {K : Int} (hln : ∀ k, k < G.K → 0 ≤ G.ln k ∧ G.ln k ≤ K) (hK : 0 ≤ K) {n m : Nat} {x : Nat → Int} {fr to : Nat → Nat} {a b : Nat → Int} (hE : Ends N n m x fr to a b) {rch : Nat → Nat → Bool} {d : Nat → Nat → Int} (hd : ∀ i, i < n → DistOf G N (fr i) (fun y => rch i y) (d i))
    (hr : ∀ i j, i < n → j < m → rch i (to j)) {P : Nat → Nat → Int} (hP : PlanT n m a b P) {g : Nat → Int} (hg : G.Fs g) (hx : ∀ v, v < N → G.out g v = x v) (hw : ∀ k, k < G.K → over x N ≤ G.wd k) :
    ∃ f, G.Fs f ∧ (∀ v, v < N → G.out f v = x v) ∧ G.cost f ≤ costT n m (fun i j => d i (to j)) P := by
  have hsum : sumN x N = 0 := by
    rw [sumN_congr (g := G.out g) (fun v hv => (hx v hv).symm)]
    exact out_sum hG g
  have h0 := over_nonneg x N
  obtain ⟨T, hT⟩ := Int.eq_ofNat_of_zero_le h0
  -- a width that no road of any flow comes to
  have hgW : ∃ W : Int, over x N < W ∧ (wideN G W).Fs g := by
    have : ∀ q, q ≤ G.K → ∃ W : Int, over x N < W ∧ ∀ k, k < q → g k ≤ W := by
      intro q
      induction q with
      | zero => intro _; exact ⟨over x N + 1, by omega, fun k h => by omega⟩
      | succ q ih =>
        intro hq
        obtain ⟨W, h1, h2⟩ := ih (by omega)
        refine ⟨max W (g q), by omega, fun k hk => ?_⟩
        rcases Nat.lt_succ_iff_lt_or_eq.1 hk with hk | rfl
        · have := h2 k hk; omega
        · omega
    obtain ⟨W, h1, h2⟩ := this G.K (Nat.le_refl _)
    exact ⟨W, h1, fun k hk => ⟨(hg k hk).1, h2 k hk⟩⟩
  obtain ⟨W, hW, hgw⟩ := hgW
  obtain ⟨f, l, hS, hf, ho, hs0⟩ := wide_ship hG hln hK hsum hgw hx hW T (by omega)
  have hl0 : ∀ v, v < N → l v = 0 := left_zero (over_zero (by omega)) hs0
  have hout : ∀ v, v < N → G.out f v = x v := fun v hv => by
    have h1 := hS.out v hv
    have e : (wideN G W).out f v = G.out f v := rfl
    rw [e, hl0 v hv] at h1
    omega
  have hfs : G.Fs f := fun k hk => ⟨(hS.fs k hk).1, by have := hf k hk; have := hw k hk; omega⟩
  refine ⟨f, hfs, hout, ?_⟩
  obtain ⟨p, hp⟩ := hS.pot
  have hfor : ∀ k, k < G.K → p (G.to k) ≤ p (G.fr k) + G.ln k := fun k hk => by
    have h1 := hp _ (ok_pos (G := wideN G W) (f := f) hk (by show f k < W; have := hf k hk; omega))
    simp only [NetG.arcs, wideN, eNo_pos] at h1
    rw [if_neg (by omega), if_neg (by omega), if_neg (by omega)] at h1
    omega
  have hback : ∀ k, k < G.K → 0 < f k → p (G.to k) = p (G.fr k) + G.ln k := fun k hk h => by
    have h0 := hfor k hk
    have h1 := hp _ (ok_neg (G := wideN G W) (f := f) hk h)
    simp only [NetG.arcs, wideN, eNo_neg] at h1
    rw [if_pos (by omega), if_pos (by omega), if_pos (by omega)] at h1
    omega
  rw [flow_eq hG (fun k hk => (hfs k hk).1) hout hback, hE.sum]
  have h2 := worth_le (u := fun i => -p (fr i)) (v := fun j => p (to j)) (c := fun i j => d i (to j)) hP (fun i j hi hj => by
    have := (hd i hi).low p hfor (to j) (hE.toN j hj) (hr i j hi hj)
    show -p (fr i) + p (to j) ≤ d i (to j)
    omega)
  have h4 : sumN (fun i => a i * (-p (fr i))) n = -sumN (fun i => a i * p (fr i)) n := by
    rw [show (fun i => a i * (-p (fr i))) = fun i => (-1) * (a i * p (fr i)) from funext fun i => by grind, sumN_mul]; omega
  have h5 : sumN (fun i => a i * (-p (fr i))) n + sumN (fun j => b j * p (to j)) m ≤ costT n m (fun i j => d i (to j)) P := h2
  omega
end
end Go.Proofs.Ytbejgbflipoboaa

/- Plain words of wide nets: where an excess begins and ends. No program in sight. -/
namespace Go.Proofs.Ytbejgbflipoboaa

/-- the first k nodes of which a test says yes -/
def pickL (t : Nat → Bool) : Nat → List Nat
  | 0 => []
  | k + 1 => if t k then pickL t k ++ [k] else pickL t k
def gn (l : List Nat) (i : Nat) : Nat := l[i]?.getD 0
theorem gn_snoc_lt {l : List Nat} {k i : Nat} (h : i < l.length) : gn (l ++ [k]) i = gn l i := by simp [gn, List.getElem?_append_left h]
theorem gn_snoc_at (l : List Nat) (k : Nat) : gn (l ++ [k]) l.length = k := by simp [gn]
theorem pickL_lt {t : Nat → Bool} : ∀ {k i : Nat}, i < (pickL t k).length → gn (pickL t k) i < k ∧ t (gn (pickL t k) i) = true
  | 0, i, h => by simp [pickL] at h
  | k + 1, i, h => by
    simp only [pickL] at h ⊢
    split at h
    · rename_i ht
      rw [if_pos ht]
      rw [List.length_append, List.length_singleton] at h
      by_cases hi : i < (pickL t k).length
      · rw [gn_snoc_lt hi]
        have := pickL_lt hi
        exact ⟨by omega, this.2⟩
      · obtain rfl : i = (pickL t k).length := by omega
        rw [gn_snoc_at]
        exact ⟨by omega, ht⟩
    · rename_i ht
      rw [if_neg ht]
      have := pickL_lt h
      exact ⟨by omega, this.2⟩
theorem pickL_len (t : Nat → Bool) : ∀ k, (pickL t k).length ≤ k
  | 0 => by simp [pickL]
  | k + 1 => by
    have := pickL_len t k
    simp only [pickL]
    split <;> simp <;> omega
theorem pickL_sum (t : Nat → Bool) (F : Nat → Int) : ∀ k, sumN (fun i => F (gn (pickL t k) i)) (pickL t k).length = sumN (fun v => if t v then F v else 0) k
  | 0 => by simp [pickL, sumN]
  | k + 1 => by
    simp only [pickL, sumN]
    by_cases h : t k = true
    · rw [if_pos h, if_pos h, List.length_append, List.length_singleton]
      simp only [sumN]
      rw [gn_snoc_at, sumN_congr (g := fun i => F (gn (pickL t k) i)) (fun i hi => by rw [gn_snoc_lt hi]), pickL_sum t F k]
    · rw [if_neg h, if_neg h, pickL_sum t F k]; omega
def posB (x : List Int) (v : Nat) : Bool := decide (0 < gi x v)
def negB (x : List Int) (v : Nat) : Bool := decide (gi x v < 0)
/-- the beginnings and the ends of an excess -/
theorem ends_of (x : List Int) (N : Nat) : Ends N (pickL (posB x) N).length (pickL (negB x) N).length (gi x) (gn (pickL (posB x) N)) (gn (pickL (negB x) N)) (fun i => gi x (gn (pickL (posB x) N) i)) (fun j => -gi x (gn (pickL (negB x) N) j)) := by
  refine ⟨fun i hi => (pickL_lt hi).1, fun j hj => (pickL_lt hj).1, fun p => ?_, fun i hi => ?_, fun j hj => ?_⟩
  · rw [pickL_sum (posB x) (fun v => gi x v * p v) N, pickL_sum (negB x) (fun v => -gi x v * p v) N]
    have h : sumN (fun v => (if posB x v then gi x v * p v else 0) + (-1) * (if negB x v then -gi x v * p v else 0)) N = sumN (fun v => p v * gi x v) N := sumN_congr fun v _ => by
      unfold posB negB
      by_cases h1 : 0 < gi x v
      · rw [if_pos (by simpa using h1), if_neg (by simp; omega)]; grind
      · by_cases h2 : gi x v < 0
        · rw [if_neg (by simpa using h1), if_pos (by simpa using h2)]; grind
        · rw [if_neg (by simpa using h1), if_neg (by simpa using h2), show gi x v = 0 by omega]; simp
    rw [← h, sumN_add, sumN_mul]; omega
  · have h1 : posB x (gn (pickL (posB x) N) i) = true := (pickL_lt hi).2
    exact Int.le_of_lt (of_decide_eq_true h1)
  · have h1 : negB x (gn (pickL (negB x) N) j) = true := (pickL_lt hj).2
    have h2 := of_decide_eq_true h1
    show 0 ≤ -gi x (gn (pickL (negB x) N) j)
    omega
theorem over_pick (x : List Int) (N : Nat) : over (gi x) N = sumN (fun i => gi x (gn (pickL (posB x) N) i)) (pickL (posB x) N).length := by
  rw [pickL_sum (posB x) (gi x) N]
  unfold over
  refine sumN_congr fun v _ => ?_
  unfold posB
  by_cases h : 0 < gi x v
  · rw [if_pos (by simpa using h)]; omega
  · rw [if_neg (by simpa using h)]; omega
/-- the masses as they come up -/
def massPos (x : List Int) (k : Nat) : List Int := (pickL (posB x) k).map fun v => gi x v
def massNeg (x : List Int) (k : Nat) : List Int := (pickL (negB x) k).map fun v => -gi x v
def nodesPos (x : List Int) (k : Nat) : List Int := (pickL (posB x) k).map fun v : Nat => (v : Int)
def nodesNeg (x : List Int) (k : Nat) : List Int := (pickL (negB x) k).map fun v : Nat => (v : Int)
theorem pick_yes {t : Nat → Bool} {k : Nat} (h : t k = true) : pickL t (k + 1) = pickL t k ++ [k] := by simp [pickL, h]
theorem pick_no {t : Nat → Bool} {k : Nat} (h : t k = false) : pickL t (k + 1) = pickL t k := by simp [pickL, h]
theorem gi_mapN {l : List Nat} {f : Nat → Int} {i : Nat} (h : i < l.length) : gi (l.map f) i = f (gn l i) := by simp [gi, gn, h]
end Go.Proofs.Ytbejgbflipoboaa

