/- The dual of sites: no owners with the shares cost less, and just those that fit cost as much. -/
import Derived.Test.YtodlbgncdggimaaT26
namespace Go.Proofs.Ytodlbgncdggimaa

def okShared (l : List Site) (x y : Int) (S : List Int) : Bool := okField l x y && (decide (S.length = l.length) && (S.all (fun n => decide (0 ≤ n)) && decide (S.sum = x * y)))
/-- the sum of the smallest powers of the first k pixels -/
def lowTo (l : List Site) (wd : Nat) : Nat → Int
  | 0 => 0
  | k + 1 => lowTo l wd k + leastP l (pxx wd k) (pxy wd k)
def wgAt (l : List Site) (i : Nat) : Int := match l[i]? with | some s => s.w | none => 0
theorem wgAt_in {l : List Site} {i : Nat} (h : i < l.length) : wgAt l i = l[i].w := by simp [wgAt, h]
/-- the first k shares times the weights -/
def heavyTo (l : List Site) (S : List Int) : Nat → Int
  | 0 => 0
  | k + 1 => heavyTo l S k + S[k]?.getD 0 * wgAt l k
def dualV (l : List Site) (x y : Int) (S : List Int) : Int := if okShared l x y S then lowTo l x.toNat (x.toNat * y.toNat) + heavyTo l S l.length else 0

/-- the weights of the owners of the first k pixels -/
def ownedTo (l : List Site) (O : List Int) : Nat → Int
  | 0 => 0
  | k + 1 => ownedTo l O k + wgAt l (O[k]?.getD 0).toNat
/-- by how much the powers of the owners are too great -/
def gapTo (l : List Site) (wd : Nat) (O : List Int) : Nat → Int
  | 0 => 0
  | k + 1 => gapTo l wd O k + (pw l (pxx wd k) (pxy wd k) (O[k]?.getD 0).toNat - leastP l (pxx wd k) (pxy wd k))

theorem cost_gap {l : List Site} {wd : Nat} {O : List Int} (hin : ∀ j (hj : j < O.length), ∃ i : Nat, O[j] = i ∧ i < l.length) : ∀ k, k ≤ O.length → costTo l wd O k = lowTo l wd k + ownedTo l O k + gapTo l wd O k
  | 0, _ => rfl
  | k + 1, hk => by
    obtain ⟨i, hi, hil⟩ := hin k (by omega)
    have ih := cost_gap (wd := wd) hin k (by omega)
    have e : O[k]?.getD 0 = (i : Int) := by rw [List.getElem?_eq_getElem (by omega), Option.getD_some, hi]
    rw [costTo, lowTo, ownedTo, gapTo, e, Int.toNat_natCast, sqAt_in hil, wgAt_in hil, pw_in hil, ih, pow]
    omega

theorem gap_at {l : List Site} {wd : Nat} {O : List Int} (h1 : 1 ≤ l.length) (hin : ∀ j (hj : j < O.length), ∃ i : Nat, O[j] = i ∧ i < l.length) {k : Nat} (hk : k < O.length) : 0 ≤ pw l (pxx wd k) (pxy wd k) (O[k]?.getD 0).toNat - leastP l (pxx wd k) (pxy wd k) := by
  obtain ⟨i, hi, hil⟩ := hin k hk
  have e : O[k]?.getD 0 = (i : Int) := by rw [List.getElem?_eq_getElem (by omega), Option.getD_some, hi]
  rw [e, Int.toNat_natCast]
  have := (leastP_spec l (pxx wd k) (pxy wd k) h1).1 i hil
  omega
theorem gap_nonneg {l : List Site} {wd : Nat} {O : List Int} (h1 : 1 ≤ l.length) (hin : ∀ j (hj : j < O.length), ∃ i : Nat, O[j] = i ∧ i < l.length) : ∀ k, k ≤ O.length → 0 ≤ gapTo l wd O k ∧ (gapTo l wd O k = 0 ↔ ∀ j, j < k → fitAt l wd O j)
  | 0, _ => ⟨Int.le_refl _, fun _ j hj => by omega, fun _ => rfl⟩
  | k + 1, hk => by
    obtain ⟨h2, h3⟩ := gap_nonneg (wd := wd) h1 hin k (by omega)
    have h4 := gap_at (wd := wd) h1 hin (k := k) (by omega)
    rw [gapTo]
    refine ⟨by omega, fun h j hj => ?_, fun h => ?_⟩
    · by_cases e : j = k
      · subst e; unfold fitAt; omega
      · exact h3.1 (by omega) j (by omega)
    · have h5 := h3.2 (fun j hj => h j (by omega))
      have h6 := h k (by omega)
      unfold fitAt at h6
      omega

theorem count_heavy_step {l : List Site} {n : Nat} {O : List Int} {k i : Nat} (hk : k < O.length) (hi : O[k] = i) : ∀ m, m ≤ n → heavyTo l (countTo n O (k + 1)) m = heavyTo l (countTo n O k) m + (if i < m then wgAt l i else 0)
  | 0, _ => by simp [heavyTo]
  | m + 1, hm => by
    have ih := count_heavy_step (l := l) (n := n) hk hi m (by omega)
    have e : O[k]?.getD 0 = (i : Int) := by rw [List.getElem?_eq_getElem hk, Option.getD_some, hi]
    rw [heavyTo, heavyTo, ih, countTo_at (by omega), countTo_at (by omega), Option.getD_some, Option.getD_some, cntTo, e]
    rcases Nat.lt_trichotomy i m with h | h | h
    · rw [if_pos h, if_neg (by omega), if_pos (by omega)]; simp; omega
    · subst h
      rw [if_neg (by omega), if_pos rfl, if_pos (by omega)]
      simp only [Int.natCast_add, Int.natCast_one, Int.add_mul, Int.one_mul]
      omega
    · rw [if_neg (by omega), if_neg (by omega), if_neg (by omega)]; simp
theorem count_heavy {l : List Site} {n : Nat} {O : List Int} (hin : ∀ j (hj : j < O.length), ∃ i : Nat, O[j] = i ∧ i < n) : ∀ k, k ≤ O.length → heavyTo l (countTo n O k) n = ownedTo l O k
  | 0, _ => by
    rw [ownedTo]
    have : ∀ m, heavyTo l (countTo n O 0) m = 0 := by
      intro m
      induction m with
      | zero => rfl
      | succ m ih =>
        rw [heavyTo, ih, countTo_zero]
        have : (List.replicate n (0 : Int))[m]?.getD 0 = 0 := by
          rw [List.getElem?_replicate]; split <;> rfl
        rw [this]; simp
    exact this n
  | k + 1, hk => by
    obtain ⟨i, hi, hin'⟩ := hin k (by omega)
    have e : O[k]?.getD 0 = (i : Int) := by rw [List.getElem?_eq_getElem (by omega), Option.getD_some, hi]
    rw [count_heavy_step (by omega) hi n (Nat.le_refl _), count_heavy hin k (by omega), if_pos hin', ownedTo, e, Int.toNat_natCast]

theorem count_sum_step {n : Nat} {O : List Int} {k i : Nat} (hk : k < O.length) (hi : O[k] = i) : ∀ m, m ≤ n → ((countTo n O (k + 1)).take m).sum = ((countTo n O k).take m).sum + (if i < m then 1 else 0)
  | 0, _ => by simp
  | m + 1, hm => by
    have ih := count_sum_step (n := n) hk hi m (by omega)
    have e : O[k]?.getD 0 = (i : Int) := by rw [List.getElem?_eq_getElem hk, Option.getD_some, hi]
    have h1 : m < (countTo n O (k + 1)).length := by rw [countTo_length]; omega
    have h2 : m < (countTo n O k).length := by rw [countTo_length]; omega
    have g1 := countTo_at (O := O) (k := k + 1) (i := m) (n := n) (by omega)
    have g2 := countTo_at (O := O) (k := k) (i := m) (n := n) (by omega)
    rw [List.getElem?_eq_getElem h1, Option.some_inj] at g1
    rw [List.getElem?_eq_getElem h2, Option.some_inj] at g2
    rw [List.take_succ_eq_append_getElem h1, List.take_succ_eq_append_getElem h2, List.sum_append, List.sum_append, List.sum_singleton, List.sum_singleton, ih, g1, g2, cntTo, e]
    rcases Nat.lt_trichotomy i m with h | h | h
    · rw [if_pos h, if_neg (by omega), if_pos (by omega)]; simp; omega
    · subst h
      rw [if_neg (by omega), if_pos rfl, if_pos (by omega)]
      simp only [Int.natCast_add, Int.natCast_one]
      omega
    · rw [if_neg (by omega), if_neg (by omega), if_neg (by omega)]; simp
theorem count_sum {n : Nat} {O : List Int} (hin : ∀ j (hj : j < O.length), ∃ i : Nat, O[j] = i ∧ i < n) : ∀ k, k ≤ O.length → (countTo n O k).sum = (k : Int)
  | 0, _ => by rw [countTo_zero]; simp
  | k + 1, hk => by
    obtain ⟨i, hi, hin'⟩ := hin k (by omega)
    have h := count_sum_step (n := n) (by omega) hi n (Nat.le_refl _)
    have t : ∀ q, (countTo n O q).take n = countTo n O q := fun q => List.take_of_length_le (by rw [countTo_length]; exact Nat.le_refl _)
    rw [t, t, count_sum hin k (by omega), if_pos hin'] at h
    rw [h]; omega

theorem count_shared {l : List Site} {x y : Int} {O : List Int} (h : okOwned l x y O = true) : okShared l x y (countL l.length O) = true := by
  obtain ⟨hf, hq, hin⟩ := owned_spec h
  have h1 : (countL l.length O).length = l.length := countTo_length _ _ _
  have h2 : (countL l.length O).sum = x * y := by rw [countL, count_sum hin _ (Nat.le_refl _), hq]
  have h3 : (countL l.length O).all (fun n => decide (0 ≤ n)) = true := by
    refine List.all_eq_true.2 fun z hz => ?_
    simp only [countL, countTo, List.mem_map] at hz
    obtain ⟨i, _, rfl⟩ := hz
    exact decide_eq_true (Int.natCast_nonneg _)
  rw [okShared, hf, h1, h2, h3]; simp

/-- the dual is the cost without what the owners' powers are too great -/
theorem dual_gap {l : List Site} {x y : Int} {O : List Int} (h : okOwned l x y O = true) :
    costTo l x.toNat O O.length = dualV l x y (countL l.length O) + gapTo l x.toNat O O.length := by
  obtain ⟨hf, hq, hin⟩ := owned_spec h
  obtain ⟨_, h1, h2, h3, h4⟩ := okField_bd hf
  have e : x.toNat * y.toNat = O.length := by
    have : ((x.toNat * y.toNat : Nat) : Int) = (O.length : Int) := by
      rw [Int.natCast_mul, Int.toNat_of_nonneg (by omega), Int.toNat_of_nonneg (by omega), hq]
    exact Int.ofNat.inj this
  rw [dualV, count_shared h, if_pos rfl, e, countL, count_heavy hin _ (Nat.le_refl _), cost_gap hin _ (Nat.le_refl _)]

theorem duals_said {l : List Site} {x y : Int} {O : List Int} (h : okOwned l x y O = true) :
    dualV l x y (countL l.length O) ≤ costTo l x.toNat O O.length ∧ (dualV l x y (countL l.length O) = costTo l x.toNat O O.length ↔ fitsVal l x y O = true) := by
  obtain ⟨hf, hq, hin⟩ := owned_spec h
  have h1 := (okSites_len (okField_bd hf).1).1
  obtain ⟨g1, g2⟩ := gap_nonneg (wd := x.toNat) h1 hin _ (Nat.le_refl _)
  have e := dual_gap h
  refine ⟨by omega, fun he => ?_, fun he => ?_⟩
  · rw [fitsVal, h, Bool.true_and]
    exact fitsB_yes (g2.1 (by omega))
  · rw [fitsVal, h, Bool.true_and, fitsB, List.all_eq_true] at he
    have := g2.2 (fun j hj => of_decide_eq_true (he j (List.mem_range.2 hj)))
    omega

/-! ### shares -/
theorem sum_take_succ {S : List Int} {k : Nat} (h : k < S.length) : (S.take (k + 1)).sum = (S.take k).sum + S[k] := by
  rw [List.take_succ_eq_append_getElem h, List.sum_append, List.sum_singleton]
theorem take_nonneg {S : List Int} (h : ∀ j (hj : j < S.length), 0 ≤ S[j]) : ∀ k, k ≤ S.length → 0 ≤ (S.take k).sum
  | 0, _ => by simp
  | k + 1, hk => by
    have := take_nonneg h k (by omega)
    have := h k (by omega)
    rw [sum_take_succ (by omega)]; omega
theorem take_le {S : List Int} (h : ∀ j (hj : j < S.length), 0 ≤ S[j]) (k : Nat) : ∀ d, k + d = S.length → (S.take k).sum ≤ S.sum
  | 0, e => by rw [show k = S.length by omega, List.take_length]; exact Int.le_refl _
  | d + 1, e => by
    have := take_le h (k + 1) d (by omega)
    have := h k (by omega)
    rw [sum_take_succ (by omega)] at *; omega
theorem all_nonneg {S : List Int} : S.all (fun n => decide (0 ≤ n)) = true ↔ ∀ j (hj : j < S.length), 0 ≤ S[j] := by
  rw [List.all_eq_true]
  constructor
  · intro h j hj; exact of_decide_eq_true (h _ (List.getElem_mem hj))
  · intro h z hz; obtain ⟨j, hj, rfl⟩ := List.getElem_of_mem hz; exact decide_eq_true (h j hj)
theorem shared_spec {l : List Site} {x y : Int} {S : List Int} : okShared l x y S = true ↔ okField l x y = true ∧ S.length = l.length ∧ (∀ j (hj : j < S.length), 0 ≤ S[j]) ∧ S.sum = x * y := by
  rw [okShared, Bool.and_eq_true, Bool.and_eq_true, Bool.and_eq_true, decide_eq_true_eq, decide_eq_true_eq, all_nonneg]
theorem shared_field {l : List Site} {x y : Int} {S : List Int} (h : okField l x y = false) : okShared l x y S = false := by simp [okShared, h]
theorem shared_len {l : List Site} {x y : Int} {S : List Int} (h : S.length ≠ l.length) : okShared l x y S = false := by simp [okShared, h]
theorem shared_neg {l : List Site} {x y : Int} {S : List Int} {k : Nat} (hk : k < S.length) (h : S[k] < 0) : okShared l x y S = false := by
  rw [← Bool.not_eq_true, shared_spec]
  rintro ⟨_, _, h3, _⟩
  have := h3 k hk; omega
theorem shared_over {l : List Site} {x y : Int} {S : List Int} {k : Nat} (hk : k < S.length) (h : x * y - (S.take k).sum < S[k]) : okShared l x y S = false := by
  rw [← Bool.not_eq_true, shared_spec]
  rintro ⟨_, _, h3, h4⟩
  have := take_le h3 (k + 1) (S.length - (k + 1)) (by omega)
  rw [sum_take_succ hk] at this; omega
theorem shared_big {l : List Site} {x y : Int} {S : List Int} {k : Nat} (hk : k < S.length) (h : x * y < S[k]) : okShared l x y S = false := by
  rw [← Bool.not_eq_true, shared_spec]
  rintro ⟨_, _, h3, h4⟩
  have := take_le h3 (k + 1) (S.length - (k + 1)) (by omega)
  have := take_nonneg h3 k (by omega)
  rw [sum_take_succ hk] at *; omega
theorem shared_sum {l : List Site} {x y : Int} {S : List Int} (h : S.sum ≠ x * y) : okShared l x y S = false := by
  rw [← Bool.not_eq_true, shared_spec]
  rintro ⟨_, _, _, h4⟩
  exact h h4
theorem shared_elem {l : List Site} {x y : Int} {S : List Int} (h : okShared l x y S = true) {k : Nat} (hk : k < S.length) : 0 ≤ S[k] ∧ S[k] ≤ x * y := by
  obtain ⟨_, _, h3, h4⟩ := shared_spec.1 h
  refine ⟨h3 k hk, ?_⟩
  have := take_le h3 (k + 1) (S.length - (k + 1)) (by omega)
  have := take_nonneg h3 k (by omega)
  rw [sum_take_succ hk] at *; omega
theorem dual_ok {l : List Site} {x y : Int} {S : List Int} (h : okShared l x y S = true) : dualV l x y S = lowTo l x.toNat (x.toNat * y.toNat) + heavyTo l S l.length := by rw [dualV, if_pos h]
theorem dual_no {l : List Site} {x y : Int} {S : List Int} (h : okShared l x y S = false) : dualV l x y S = 0 := by rw [dualV, h]; rfl
theorem low_bd {l : List Site} (hok : okSites l = true) {wd : Nat} (hw1 : 1 ≤ wd) (hw2 : wd ≤ 12) : ∀ k, k ≤ 144 → -20000 * k ≤ lowTo l wd k ∧ lowTo l wd k ≤ 2141800 * k
  | 0, _ => by simp [lowTo]
  | k + 1, hk => by
    have h1 := low_bd hok hw1 hw2 k (by omega)
    have h2 := minTo_pows_bd hok (pix_in2 hw1 hw2 (k := k) (by omega)).1 l.length (okSites_len hok).1 (Nat.le_refl _)
    have e : leastP l (pxx wd k) (pxy wd k) = minTo (pows l (pxx wd k) (pxy wd k)) l.length := rfl
    rw [lowTo, e]; omega
theorem heavy_step {l : List Site} {S : List Int} {k : Nat} (hk : k < S.length) (hkl : k < l.length) : heavyTo l S (k + 1) = heavyTo l S k + S[k] * l[k].w := by
  rw [heavyTo, List.getElem?_eq_getElem hk, Option.getD_some, wgAt_in hkl]
theorem share_bd {s : Site} (hs : okSite s = true) {n : Int} (h1 : 0 ≤ n) (h2 : n ≤ 144) : -2880000 ≤ n * s.w ∧ n * s.w ≤ 2880000 := by
  have hb := okSite_bd hs
  have hw : -20000 ≤ s.w ∧ s.w ≤ 20000 := by omega
  obtain ⟨a, rfl⟩ := Int.eq_ofNat_of_zero_le h1
  have g1 : (a : Int) * s.w ≤ (a : Int) * 20000 := Int.mul_le_mul_of_nonneg_left hw.2 (by omega)
  have g2 : (a : Int) * (-20000) ≤ (a : Int) * s.w := Int.mul_le_mul_of_nonneg_left hw.1 (by omega)
  omega
theorem heavy_bd {l : List Site} {S : List Int} (hok : okSites l = true) (hlen : S.length = l.length) (h : ∀ j (hj : j < S.length), 0 ≤ S[j] ∧ S[j] ≤ 144) : ∀ k, k ≤ l.length → -2880000 * k ≤ heavyTo l S k ∧ heavyTo l S k ≤ 2880000 * k
  | 0, _ => by simp [heavyTo]
  | k + 1, hk => by
    have h1 := heavy_bd hok hlen h k (by omega)
    have h2 := h k (by omega)
    have h3 := share_bd (okSites_at hok (show k < l.length by omega)) h2.1 h2.2
    rw [heavy_step (by omega) (by omega)]
    omega
end Go.Proofs.Ytodlbgncdggimaa
