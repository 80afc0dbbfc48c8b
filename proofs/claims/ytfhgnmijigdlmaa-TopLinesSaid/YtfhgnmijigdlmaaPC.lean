/- No pairs between two ascending lists cost less than the ordered ones; by squares just those that do not cross cost as much. No program in sight. -/
import Derived.Test.YtfhgnmijigdlmaaPB
namespace Go.Proofs.Ytfhgnmijigdlmaa

/-- how many pairs have their first number up to s, and their second one up to t -/
def hits (Q : List (Int × Int)) (s t : Int) : Nat := Q.countP fun q => decide (q.1 ≤ s) && decide (q.2 ≤ t)
def Crossed (Q : List (Int × Int)) : Prop := ∃ q ∈ Q, ∃ r ∈ Q, q.1 < r.1 ∧ r.2 < q.2
theorem hits_le (Q : List (Int × Int)) (s t : Int) : hits Q s t ≤ (Q.map Prod.fst).countP (fun x => decide (x ≤ s)) ∧ hits Q s t ≤ (Q.map Prod.snd).countP (fun x => decide (x ≤ t)) := by
  unfold hits
  rw [List.countP_map, List.countP_map]
  exact ⟨List.countP_mono_left fun x _ h => by simp at h ⊢; exact h.1, List.countP_mono_left fun x _ h => by simp at h ⊢; exact h.2⟩
theorem hits_min {Q : List (Int × Int)} (h : ¬ Crossed Q) (s t : Int) : hits Q s t = min ((Q.map Prod.fst).countP (fun x => decide (x ≤ s))) ((Q.map Prod.snd).countP (fun x => decide (x ≤ t))) := by
  obtain ⟨h1, h2⟩ := hits_le Q s t
  by_cases hc : ∃ q ∈ Q, q.1 ≤ s ∧ t < q.2
  · obtain ⟨q, hq, q1, q2⟩ := hc
    have : hits Q s t = (Q.map Prod.snd).countP (fun x => decide (x ≤ t)) := by
      unfold hits
      rw [List.countP_map]
      refine List.countP_congr fun r hr => ?_
      simp only [Bool.and_eq_true, decide_eq_true_eq, Function.comp]
      refine ⟨fun a => a.2, fun a => ⟨?_, a⟩⟩
      by_cases h3 : r.1 ≤ s
      · exact h3
      · exact absurd ⟨q, hq, r, hr, by omega, by omega⟩ h
    omega
  · have : hits Q s t = (Q.map Prod.fst).countP (fun x => decide (x ≤ s)) := by
      unfold hits
      rw [List.countP_map]
      refine List.countP_congr fun r hr => ?_
      simp only [Bool.and_eq_true, decide_eq_true_eq, Function.comp]
      refine ⟨fun a => a.1, fun a => ⟨a, ?_⟩⟩
      by_cases h3 : r.2 ≤ t
      · exact h3
      · exact absurd ⟨r, hr, a, by omega⟩ hc
    omega
theorem countP_lt {α : Type} {p q : α → Bool} : ∀ {l : List α}, (∀ x ∈ l, p x = true → q x = true) → (∃ x ∈ l, p x = false ∧ q x = true) → l.countP p < l.countP q
  | [], _, h => by obtain ⟨x, hx, _⟩ := h; simp at hx
  | a :: l, h, hx => by
    have hm : l.countP p ≤ l.countP q := List.countP_mono_left fun x hx h2 => h x (List.mem_cons_of_mem _ hx) h2
    have ha := h a List.mem_cons_self
    obtain ⟨x, hx, h1, h2⟩ := hx
    rcases List.mem_cons.1 hx with rfl | hx
    · rw [List.countP_cons_of_neg (by simp [h1]), List.countP_cons_of_pos h2]; omega
    · have ih := countP_lt (l := l) (fun y hy => h y (List.mem_cons_of_mem _ hy)) ⟨x, hx, h1, h2⟩
      rw [List.countP_cons, List.countP_cons]
      by_cases c : p a = true
      · rw [if_pos c, if_pos (ha c)]; omega
      · rw [if_neg c]; split <;> omega
theorem hits_crossed {Q : List (Int × Int)} (h : Crossed Q) : ∃ q ∈ Q, ∃ r ∈ Q, hits Q q.1 r.2 < min ((Q.map Prod.fst).countP (fun x => decide (x ≤ q.1))) ((Q.map Prod.snd).countP (fun x => decide (x ≤ r.2))) ∧ q.1 < r.1 ∧ r.2 < q.2 := by
  obtain ⟨q, hq, r, hr, h1, h2⟩ := h
  refine ⟨q, hq, r, hr, ?_, h1, h2⟩
  have a1 : hits Q q.1 r.2 < (Q.map Prod.fst).countP (fun x => decide (x ≤ q.1)) := by
    unfold hits; rw [List.countP_map]
    exact countP_lt (fun x _ hx => by simp at hx ⊢; exact hx.1) ⟨q, hq, by simp; omega, by simp⟩
  have a2 : hits Q q.1 r.2 < (Q.map Prod.snd).countP (fun x => decide (x ≤ r.2)) := by
    unfold hits; rw [List.countP_map]
    exact countP_lt (fun x _ hx => by simp at hx ⊢; exact hx.2) ⟨r, hr, by simp; omega, by simp⟩
  omega
theorem zip_uncrossed {u v : List Int} (hu : u.Pairwise (· ≤ ·)) (hv : v.Pairwise (· ≤ ·)) : ¬ Crossed (u.zip v) := by
  rintro ⟨q, hq, r, hr, h1, h2⟩
  obtain ⟨i, hi, rfl⟩ := List.getElem_of_mem hq
  obtain ⟨j, hj, rfl⟩ := List.getElem_of_mem hr
  simp only [List.getElem_zip] at h1 h2
  simp only [List.length_zip] at hi hj
  rw [List.pairwise_iff_getElem] at hu hv
  rcases Nat.lt_trichotomy i j with h | h | h
  · have := hv i j (by omega) (by omega) h; omega
  · subst h; omega
  · have := hu j i (by omega) (by omega) h; omega

/-! sums over thresholds -/
def thr (i : Nat) : Int := (i : Int) - 1000
def ind (x : Int) (i : Nat) : Int := indI (decide (x ≤ thr i))
theorem sumR_zero' : ∀ n, sumR (fun _ => (0 : Int)) n = 0
  | 0 => rfl
  | n + 1 => by simp [sumR, sumR_zero' n]
theorem sumR_cmul (c : Int) (f : Nat → Int) : ∀ k, sumR (fun i => c * f i) k = c * sumR f k
  | 0 => by simp [sumR]
  | k + 1 => by simp only [sumR]; rw [sumR_cmul c f k, Int.mul_add]
theorem sumR_mono {f g : Nat → Int} {n : Nat} (h : ∀ i, i < n → f i ≤ g i) : ∀ k, k ≤ n → sumR f k ≤ sumR g k
  | 0, _ => by simp [sumR]
  | k + 1, hk => by have := sumR_mono h k (by omega); have := h k (by omega); simp only [sumR]; omega
theorem sumR_lt {f g : Nat → Int} {n : Nat} (h : ∀ i, i < n → f i ≤ g i) {j : Nat} (hj : f j < g j) : ∀ k, k ≤ n → j < k → sumR f k < sumR g k
  | 0, _, h0 => by omega
  | k + 1, hk, h0 => by
    simp only [sumR]
    by_cases e : j = k
    · subst e
      have := sumR_mono h j (by omega); omega
    · have := sumR_lt h hj k (by omega) (by omega); have := h k (by omega); omega
theorem ind_line {x : Int} (hx : -1000 ≤ x ∧ x ≤ 1000) : ∀ j : Nat, j ≤ 2000 → sumR (ind x) j = if (j : Int) ≤ x + 1000 then 0 else (j : Int) - (x + 1000)
  | 0, _ => by simp only [sumR]; rw [if_pos (by omega)]
  | j + 1, hj => by
    have ih := ind_line hx j (by omega)
    simp only [sumR]
    rw [ih]
    unfold ind thr
    by_cases h : x ≤ (j : Int) - 1000
    · rw [decide_eq_true h, show indI true = 1 from rfl]; split <;> split <;> omega
    · rw [decide_eq_false h, show indI false = 0 from rfl]; split <;> split <;> omega
theorem ind_sum {x : Int} (hx : -1000 ≤ x ∧ x ≤ 1000) : sumR (ind x) 2000 = 1000 - x := by
  rw [ind_line hx 2000 (Nat.le_refl _)]; split <;> omega
theorem ind_prod {x y : Int} (hx : -1000 ≤ x ∧ x ≤ 1000) (hy : -1000 ≤ y ∧ y ≤ 1000) : sumR (fun i => sumR (fun j => ind x i * ind y j) 2000) 2000 = (1000 - x) * (1000 - y) := by
  have e : ∀ i, sumR (fun j => ind x i * ind y j) 2000 = (1000 - y) * ind x i := fun i => by rw [sumR_cmul, ind_sum hy, Int.mul_comm]
  rw [show (fun i => sumR (fun j => ind x i * ind y j) 2000) = fun i => (1000 - y) * ind x i from funext e, sumR_cmul, ind_sum hx, Int.mul_comm]
theorem indI_mul (a b : Bool) : indI a * indI b = indI (a && b) := by cases a <;> cases b <;> rfl
theorem hits_cons (q : Int × Int) (Q : List (Int × Int)) (i j : Nat) : (hits (q :: Q) (thr i) (thr j) : Int) = ind q.1 i * ind q.2 j + hits Q (thr i) (thr j) := by
  unfold hits ind
  rw [List.countP_cons, indI_mul]
  unfold indI
  split <;> simp_all <;> omega
theorem cnt_cons (x : Int) (L : List Int) (i : Nat) : (((x :: L).countP fun y => decide (y ≤ thr i) : Nat) : Int) = ind x i + (L.countP fun y => decide (y ≤ thr i) : Nat) := by
  unfold ind
  rw [List.countP_cons]
  unfold indI
  split <;> simp_all <;> omega
def InR (Q : List (Int × Int)) : Prop := ∀ q ∈ Q, (-1000 ≤ q.1 ∧ q.1 ≤ 1000) ∧ (-1000 ≤ q.2 ∧ q.2 ≤ 1000)
theorem sumR_add3 (f g h : Nat → Int) (n : Nat) : sumR (fun i => f i + g i - 2 * h i) n = sumR f n + sumR g n - 2 * sumR h n := by
  induction n with
  | zero => rfl
  | succ n ih => simp only [sumR]; rw [ih]; omega
/-- the products, told by the hits -/
theorem prod_hits : ∀ {Q : List (Int × Int)}, InR Q → (Q.map fun q => (1000 - q.1) * (1000 - q.2)).sum = sumR (fun i => sumR (fun j => (hits Q (thr i) (thr j) : Int)) 2000) 2000
  | [], _ => by simp [hits, sumR_zero']
  | q :: Q, h => by
    have ih := prod_hits (Q := Q) fun r hr => h r (List.mem_cons_of_mem _ hr)
    have hq := h q List.mem_cons_self
    rw [List.map_cons, List.sum_cons, ih, ← ind_prod hq.1 hq.2, ← sumR_add]
    refine sumR_congr (n := 2000) (fun i _ => ?_) _ (Nat.le_refl _)
    rw [← sumR_add]
    exact sumR_congr (n := 2000) (fun j _ => (hits_cons q Q i j).symm) _ (Nat.le_refl _)
theorem dist_ind {x y : Int} (hx : -1000 ≤ x ∧ x ≤ 1000) (hy : -1000 ≤ y ∧ y ≤ 1000) : distI x y = sumR (fun i => ind x i + ind y i - 2 * (ind x i * ind y i)) 2000 := by
  rw [← gap_sum hx hy]
  refine sumR_congr (n := 2000) (fun i _ => ?_) _ (Nat.le_refl _)
  unfold ind thr
  generalize decide (x ≤ (i : Int) - 1000) = a
  generalize decide (y ≤ (i : Int) - 1000) = b
  cases a <;> cases b <;> rfl
/-- the distances, told by the hits -/
theorem dist_hits : ∀ {Q : List (Int × Int)}, InR Q → sumP Q 1 = sumR (fun i => ((Q.map Prod.fst).countP (fun x => decide (x ≤ thr i)) : Nat) + ((Q.map Prod.snd).countP (fun x => decide (x ≤ thr i)) : Nat) - 2 * (hits Q (thr i) (thr i) : Int)) 2000
  | [], _ => by simp [hits, sumP, sumR_zero']
  | q :: Q, h => by
    have ih := dist_hits (Q := Q) fun r hr => h r (List.mem_cons_of_mem _ hr)
    have hq := h q List.mem_cons_self
    have e : sumP (q :: Q) 1 = distI q.1 q.2 + sumP Q 1 := by simp [sumP, priceV]
    rw [e, ih, dist_ind hq.1 hq.2, ← sumR_add]
    refine sumR_congr (n := 2000) (fun i _ => ?_) _ (Nat.le_refl _)
    rw [hits_cons, List.map_cons, List.map_cons, cnt_cons, cnt_cons]
    omega
theorem sq_split (Q : List (Int × Int)) : sumP Q 2 = ((Q.map Prod.fst).map fun x => (1000 - x) * (1000 - x)).sum + ((Q.map Prod.snd).map fun x => (1000 - x) * (1000 - x)).sum - 2 * (Q.map fun q => (1000 - q.1) * (1000 - q.2)).sum := by
  induction Q with
  | nil => simp [sumP]
  | cons q Q ih =>
    have e : sumP (q :: Q) 2 = (q.2 - q.1) * (q.2 - q.1) + sumP Q 2 := by simp [sumP, priceV_two]
    rw [e, ih]
    simp only [List.map_cons, List.sum_cons]
    generalize (List.map (fun x => (1000 - x) * (1000 - x)) (List.map Prod.fst Q)).sum = A
    generalize (List.map (fun x => (1000 - x) * (1000 - x)) (List.map Prod.snd Q)).sum = B
    generalize (List.map (fun q : Int × Int => (1000 - q.1) * (1000 - q.2)) Q).sum = C
    grind
theorem perm_sum {l m : List Int} (h : l.Perm m) : l.sum = m.sum := by
  induction h with
  | nil => rfl
  | cons x _ ih => simp [ih]
  | swap x y l => simp; omega
  | trans _ _ a b => rw [a, b]
theorem zip_fst {u v : List Int} (h : u.length = v.length) : (u.zip v).map Prod.fst = u := List.map_fst_zip (by omega)
theorem zip_snd {u v : List Int} (h : u.length = v.length) : (u.zip v).map Prod.snd = v := List.map_snd_zip (by omega)
theorem inR_of {Q : List (Int × Int)} {u v : List Int} (h1 : (Q.map Prod.fst).Perm u) (h2 : (Q.map Prod.snd).Perm v) (bu : ∀ x ∈ u, -1000 ≤ x ∧ x ≤ 1000) (bv : ∀ x ∈ v, -1000 ≤ x ∧ x ≤ 1000) : InR Q := fun _ hq =>
  ⟨bu _ (h1.mem_iff.1 (List.mem_map_of_mem hq)), bv _ (h2.mem_iff.1 (List.mem_map_of_mem hq))⟩
section
variable {Q : List (Int × Int)} {u v : List Int} (h1 : (Q.map Prod.fst).Perm u) (h2 : (Q.map Prod.snd).Perm v) (hu : u.Pairwise (· ≤ ·)) (hv : v.Pairwise (· ≤ ·)) (hl : u.length = v.length) (bu : ∀ x ∈ u, -1000 ≤ x ∧ x ≤ 1000) (bv : ∀ x ∈ v, -1000 ≤ x ∧ x ≤ 1000)
include h1 h2 hu hv hl
theorem hits_zip (s t : Int) : hits (u.zip v) s t = min ((Q.map Prod.fst).countP (fun x => decide (x ≤ s))) ((Q.map Prod.snd).countP (fun x => decide (x ≤ t))) := by
  rw [hits_min (zip_uncrossed hu hv), zip_fst hl, zip_snd hl, h1.countP_eq, h2.countP_eq]
theorem hits_best (s t : Int) : hits Q s t ≤ hits (u.zip v) s t := by
  rw [hits_zip h1 h2 hu hv hl]
  have := hits_le Q s t
  omega
include bu bv
omit h1 h2 hu hv in
theorem inR_zip : InR (u.zip v) := inR_of (Q := u.zip v) (by rw [zip_fst hl]) (by rw [zip_snd hl]) bu bv
theorem best_one : sumP (u.zip v) 1 ≤ sumP Q 1 := by
  rw [dist_hits (inR_zip hl bu bv), dist_hits (inR_of h1 h2 bu bv)]
  refine sumR_mono (n := 2000) (fun i _ => ?_) _ (Nat.le_refl _)
  have := hits_best h1 h2 hu hv hl (thr i) (thr i)
  rw [zip_fst hl, zip_snd hl, h1.countP_eq, h2.countP_eq]
  omega
omit hu hv in
theorem two_eq : sumP Q 2 - sumP (u.zip v) 2 = 2 * (sumR (fun i => sumR (fun j => (hits (u.zip v) (thr i) (thr j) : Int)) 2000) 2000 - sumR (fun i => sumR (fun j => (hits Q (thr i) (thr j) : Int)) 2000) 2000) := by
  rw [← prod_hits (inR_zip hl bu bv), ← prod_hits (inR_of h1 h2 bu bv), sq_split, sq_split, zip_fst hl, zip_snd hl, perm_sum (h1.map _), perm_sum (h2.map _)]
  omega
theorem best_two : sumP (u.zip v) 2 ≤ sumP Q 2 := by
  have e := two_eq h1 h2 hl bu bv
  have h : sumR (fun i => sumR (fun j => (hits Q (thr i) (thr j) : Int)) 2000) 2000 ≤ sumR (fun i => sumR (fun j => (hits (u.zip v) (thr i) (thr j) : Int)) 2000) 2000 :=
    sumR_mono (n := 2000) (fun i _ => sumR_mono (n := 2000) (fun j _ => by have := hits_best h1 h2 hu hv hl (thr i) (thr j); omega) _ (Nat.le_refl _)) _ (Nat.le_refl _)
  omega
theorem two_same (h : ¬ Crossed Q) : sumP Q 2 = sumP (u.zip v) 2 := by
  have e := two_eq h1 h2 hl bu bv
  have h : sumR (fun i => sumR (fun j => (hits Q (thr i) (thr j) : Int)) 2000) 2000 = sumR (fun i => sumR (fun j => (hits (u.zip v) (thr i) (thr j) : Int)) 2000) 2000 :=
    sumR_congr (n := 2000) (fun i _ => sumR_congr (n := 2000) (fun j _ => by rw [hits_min h, hits_zip h1 h2 hu hv hl]) _ (Nat.le_refl _)) _ (Nat.le_refl _)
  omega
theorem two_more (h : Crossed Q) : sumP (u.zip v) 2 < sumP Q 2 := by
  have e := two_eq h1 h2 hl bu bv
  obtain ⟨q, hq, r, hr, hlt, c1, c2⟩ := hits_crossed h
  have hi := inR_of h1 h2 bu bv
  have q1 := hi q hq
  have r1 := hi r hr
  obtain ⟨i, hi2⟩ : ∃ i : Nat, thr i = q.1 ∧ i < 2000 := ⟨(q.1 + 1000).toNat, by unfold thr; omega, by omega⟩
  obtain ⟨j, hj2⟩ : ∃ j : Nat, thr j = r.2 ∧ j < 2000 := ⟨(r.2 + 1000).toNat, by unfold thr; omega, by omega⟩
  rw [← hits_zip h1 h2 hu hv hl, ← hi2.1, ← hj2.1] at hlt
  have hle : ∀ i j, (hits Q (thr i) (thr j) : Int) ≤ hits (u.zip v) (thr i) (thr j) := fun i j => by have := hits_best h1 h2 hu hv hl (thr i) (thr j); omega
  have h : sumR (fun i => sumR (fun j => (hits Q (thr i) (thr j) : Int)) 2000) 2000 < sumR (fun i => sumR (fun j => (hits (u.zip v) (thr i) (thr j) : Int)) 2000) 2000 :=
    sumR_lt (n := 2000) (j := i) (fun i _ => sumR_mono (n := 2000) (fun j _ => hle i j) _ (Nat.le_refl _)) (sumR_lt (n := 2000) (j := j) (fun j _ => hle i j) (by omega) _ (Nat.le_refl _) hj2.2) _ (Nat.le_refl _) hi2.2
  omega
end
end Go.Proofs.Ytfhgnmijigdlmaa
