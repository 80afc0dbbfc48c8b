/- The plain law of TopLines, second part: the smallest cost, and heights as prices. No program in sight. -/
import Derived.Test.YtfhgnmijigdlmaaU6
import Derived.Test.YtfhgnmijigdlmaaU5
import Derived.Test.YtfhgnmijigdlmaaT15
import Derived.Test.YtfhgnmijigdlmaaT11
namespace Go.Proofs.Ytfhgnmijigdlmaa.Tr
open Go.RowKit

theorem masL_length (l : List Atom) : (masL l).length = l.length := masTo_length l l.length
theorem sm_mas {l : List Atom} : sm (masL l) = totalL l := by
  have key : ∀ k, k ≤ l.length → smTo (masL l) k = totalL (l.take k) := fun k => by
    induction k with
    | zero => intro _; simp [smTo, totalL]
    | succ k ih =>
      intro hk
      rw [smTo_succ, ih (by omega), take_sum l (by omega), masL_gi (by omega), atK_at (by omega)]
  unfold sm
  rw [masL_length, key _ (Nat.le_refl _), List.take_length]
theorem mass_bd {l : List Atom} (h : valLoad l = 0) {i : Nat} (hi : i < l.length) : 1 ≤ (atK l i).m ∧ (atK l i).m ≤ 30 := by
  rw [atK_at hi]
  exact (isListB_mem (listErr_ok h).2 (List.getElem_mem hi)).2
theorem place_bd {l : List Atom} (h : valLoad l = 0) {i : Nat} (hi : i < l.length) : -1000 ≤ (atK l i).p ∧ (atK l i).p ≤ 1000 := by
  rw [atK_at hi]
  exact (isListB_mem (listErr_ok h).2 (List.getElem_mem hi)).1
theorem massB_mas {l : List Atom} (h : valLoad l = 0) (h1 : 1 ≤ l.length) (h5 : l.length ≤ 5) : massB (masL l) = true := by
  unfold massB
  rw [masL_length, decide_eq_true h1, decide_eq_true h5, Bool.true_and, Bool.true_and]
  refine okRow_yes fun k hk => withinB_iff.2 ?_
  rw [masL_length] at hk
  rw [masL_gi hk]
  have := mass_bd h hk
  omega
theorem dAt_pos (a b : List Atom) {k : Int} (hk : k = 1 ∨ k = 2) (i j : Nat) : 0 ≤ dAt a b k i j := by
  unfold dAt priceV
  have h : 0 ≤ distI (atK a i).p (atK b j).p := by unfold distI; split <;> omega
  rcases hk with rfl | rfl
  · exact h
  · exact Int.mul_nonneg h h
theorem bet_ok {a b : List Atom} {k : Int} (hk : k = 1 ∨ k = 2) (a1 : 1 ≤ a.length) (a5 : a.length ≤ 5) (b1 : 1 ≤ b.length) (b5 : b.length ≤ 5) (h : betB a b k = true) : TOk a.length b.length 0 99 (betT a b k) :=
  ⟨a1, a5, b1, b5, betTo_length _ _ _ _, fun i hi => by rw [betT_row hi, betRow_length], fun i j hi hj => by rw [betT_tg hi hj]; exact ⟨dAt_pos a b hk i j, betB_at h hi hj⟩⟩
theorem bet_fits {a b : List Atom} {k : Int} (hp : linePair a b = 0) (hk : k = 1 ∨ k = 2) (a1 : 1 ≤ a.length) (a5 : a.length ≤ 5) (b1 : 1 ≤ b.length) (b5 : b.length ≤ 5) (h : betB a b k = true) : fitsErr (masL a) (masL b) (betT a b k) = 0 := by
  obtain ⟨h1, h2, h3⟩ := linePair_ok hp
  have hT := bet_ok hk a1 a5 b1 b5 h
  have hb : fitsB (masL a) (masL b) (betT a b k) = true := by
    unfold fitsB
    rw [massB_mas h1 a1 a5, massB_mas h2 b1 b5, tabB_of hT, masL_length, masL_length, decide_eq_true hT.len, decide_eq_true (hT.cols 0 (by omega))]; rfl
  unfold fitsErr
  rw [if_pos hb, if_pos (by rw [sm_mas, sm_mas, h3])]
/-- the smallest cost of a plan between the atoms is the least of the line -/
theorem least_line {a b : List Atom} {k v : Int} (hp : linePair a b = 0) (hk : k = 1 ∨ k = 2) (a1 : 1 ≤ a.length) (a5 : a.length ≤ 5) (b1 : 1 ≤ b.length) (b5 : b.length ≤ 5) (h : betB a b k = true) (hv : LeastP (masL a) (masL b) (betT a b k) v) : v = apartL a b k := by
  obtain ⟨P, hB, rfl⟩ := hv.2 (bet_fits hp hk a1 a5 b1 b5 h)
  rw [masL_length, masL_length] at hB ⊢
  have e : costT a.length b.length (tg (betT a b k)) (tg P) = costT a.length b.length (dAt a b k) (tg P) := costT_eq fun i j hi hj => by rw [betT_tg hi hj]
  have hP : PlanA a b (tg P) := ⟨hB.2.2.pos, fun i hi => by rw [hB.2.2.rows i hi, masL_gi hi], fun j hj => by rw [hB.2.2.cols j hj, masL_gi hj]⟩
  rw [e]
  refine Int.le_antisymm ?_ (plan_ge hp hk hP)
  obtain ⟨u, p, hup⟩ := hB.2.1.pot
  obtain ⟨o1, o2, o3⟩ := ord_plan hp
  rw [← o2 k, ← e, ← worth_eq hB.2.2 (fun i j hi hj => (hup i j hi hj).2)]
  have e2 : worthT a.length b.length (gi (masL a)) (gi (masL b)) u p = worthT a.length b.length (fun i => (atK a i).m) (fun j => (atK b j).m) u p := by
    unfold worthT
    rw [sumN_congr (f := fun i => gi (masL a) i * u i) (g := fun i => (atK a i).m * u i) (fun i hi => by rw [masL_gi hi]), sumN_congr (f := fun j => gi (masL b) j * p j) (g := fun j => (atK b j).m * p j) (fun j hj => by rw [masL_gi hj])]
  rw [e2]
  exact worth_le o1 (fun i j hi hj => by have := (hup i j hi hj).1; rwa [betT_tg hi hj] at this)

/-! heights as prices -/
def ixL (L : List Int) (p : Int) : Nat := L.findIdx fun x => decide (x = p)
theorem ixL_ok {L : List Int} {p : Int} (h : p ∈ L) : ixL L p < L.length ∧ gi L (ixL L p) = p ∧ ∀ j, j < ixL L p → gi L j ≠ p := by
  have h1 : ixL L p < L.length := List.findIdx_lt_length_of_exists ⟨p, h, decide_eq_true rfl⟩
  refine ⟨h1, ?_, fun j hj => ?_⟩
  · rw [gi_get h1]
    exact of_decide_eq_true (List.findIdx_getElem (w := h1) (p := fun x : Int => decide (x = p)))
  · have h2 := List.not_of_lt_findIdx (p := fun x : Int => decide (x = p)) hj
    rw [gi_get (by omega)]
    simpa using h2
theorem mem_places {a b : List Atom} (ha : valLoad a = 0) (hb : valLoad b = 0) (p : Int) : p ∈ placesL2 a b ↔ (∃ i, i < a.length ∧ (atK a i).p = p) ∨ ∃ j, j < b.length ∧ (atK b j).p = p := by
  rw [← places_said ha hb, (compact_said (sortI_pw _)).2, (sortI_perm _).mem_iff, List.mem_map]
  constructor
  · rintro ⟨x, hx, rfl⟩
    rcases List.mem_append.1 hx with hx | hx
    · obtain ⟨i, hi, rfl⟩ := List.getElem_of_mem hx
      exact .inl ⟨i, hi, by rw [atK_at hi]⟩
    · obtain ⟨i, hi, rfl⟩ := List.getElem_of_mem hx
      exact .inr ⟨i, hi, by rw [atK_at hi]⟩
  · rintro (⟨i, hi, rfl⟩ | ⟨i, hi, rfl⟩)
    · exact ⟨a[i], List.mem_append_left _ (List.getElem_mem hi), by rw [atK_at hi]⟩
    · exact ⟨b[i], List.mem_append_right _ (List.getElem_mem hi), by rw [atK_at hi]⟩
theorem mem_left {a b : List Atom} (ha : valLoad a = 0) (hb : valLoad b = 0) {i : Nat} (hi : i < a.length) : (atK a i).p ∈ placesL2 a b := (mem_places ha hb _).2 (.inl ⟨i, hi, rfl⟩)
theorem mem_right {a b : List Atom} (ha : valLoad a = 0) (hb : valLoad b = 0) {j : Nat} (hj : j < b.length) : (atK b j).p ∈ placesL2 a b := (mem_places ha hb _).2 (.inr ⟨j, hj, rfl⟩)
/-- the height at a place -/
def hAt (a b : List Atom) (p : Int) : Int := gi (heightsL a b) (ixL (placesL2 a b) p)
theorem gentle_far {L h : List Int} {n : Nat} (hg : gentle L h n) (hL : ∀ i, i + 1 < n → gi L i ≤ gi L (i + 1)) {i : Nat} : ∀ d, i + d < n → distI (gi h i) (gi h (i + d)) ≤ gi L (i + d) - gi L i
  | 0, _ => by rw [Nat.add_zero, distI_self]; omega
  | d + 1, hd => by
    have ih := gentle_far (n := n) (i := i) hg hL d (by omega)
    have h1 := hg (i + d) (by omega)
    have h2 := distI_tri (gi h i) (gi h (i + d)) (gi h (i + d + 1))
    rw [show i + (d + 1) = i + d + 1 by omega]
    omega
theorem heights_far {a b : List Atom} {i j : Nat} (hi : i < (placesL2 a b).length) (hj : j < (placesL2 a b).length) : distI (gi (heightsL a b) i) (gi (heightsL a b) j) ≤ distI (gi (placesL2 a b) i) (gi (placesL2 a b) j) := by
  have hg := heights_gentle a b
  have hL : ∀ i, i + 1 < (placesL2 a b).length → gi (placesL2 a b) i ≤ gi (placesL2 a b) (i + 1) := fun i hi => by have := places_gi (a := a) (b := b) (show i < i + 1 by omega) hi; omega
  rcases Nat.le_total i j with h | h
  · obtain ⟨d, rfl⟩ := Nat.exists_eq_add_of_le h
    have h1 := gentle_far hg hL d hj
    unfold distI at h1 ⊢
    repeat' split
    all_goals (split at h1 <;> omega)
  · obtain ⟨d, rfl⟩ := Nat.exists_eq_add_of_le h
    have h1 := gentle_far hg hL d hi
    rw [distI_symm (gi (heightsL a b) (j + d)), distI_symm (gi (placesL2 a b) (j + d))]
    unfold distI at h1 ⊢
    repeat' split
    all_goals (split at h1 <;> omega)
theorem hAt_far {a b : List Atom} {p q : Int} (hp : p ∈ placesL2 a b) (hq : q ∈ placesL2 a b) : distI (hAt a b p) (hAt a b q) ≤ distI p q := by
  obtain ⟨p1, p2, _⟩ := ixL_ok hp
  obtain ⟨q1, q2, _⟩ := ixL_ok hq
  have := heights_far p1 q1
  rw [p2, q2] at this
  exact this
theorem dist_in {p q x : Int} (h : distI p q ≤ x) : p - q ≤ x ∧ q - p ≤ x := by unfold distI at h; split at h <;> omega
/-- all places lie near each other where the atoms do -/
theorem span {a b : List Atom} (ha : valLoad a = 0) (hb : valLoad b = 0) (a1 : 1 ≤ a.length) (b1 : 1 ≤ b.length) (h : betB a b 1 = true) {p q : Int} (hp : p ∈ placesL2 a b) (hq : q ∈ placesL2 a b) : p - q ≤ 198 := by
  have hd : ∀ i j, i < a.length → j < b.length → (atK a i).p - (atK b j).p ≤ 99 ∧ (atK b j).p - (atK a i).p ≤ 99 := fun i j hi hj => dist_in (betB_at h hi hj)
  have d00 := hd 0 0 a1 b1
  rcases (mem_places ha hb p).1 hp with ⟨i, hi, rfl⟩ | ⟨i, hi, rfl⟩ <;> rcases (mem_places ha hb q).1 hq with ⟨j, hj, rfl⟩ | ⟨j, hj, rfl⟩
  · have := hd i 0 hi b1; have := hd j 0 hj b1; omega
  · have := hd i j hi hj; omega
  · have := hd j i hj hi; omega
  · have := hd 0 i a1 hi; have := hd 0 j a1 hj; omega
/-- what heights say of a load -/
def hSum (a b l : List Atom) : Int := sumN (fun i => (atK l i).m * hAt a b (atK l i).p) l.length
theorem hSum_mass {a b l : List Atom} (hl : valLoad l = 0) (hin : ∀ i, i < l.length → (atK l i).p ∈ placesL2 a b) :
    sumN (fun s => gi (heightsL a b) s * massAt l (gi (placesL2 a b) s)) (placesL2 a b).length = hSum a b l := by
  rw [sumN_congr (g := fun s => sumN (fun i => if (atK l i).p = gi (placesL2 a b) s then gi (heightsL a b) s * (atK l i).m else 0) l.length) (fun s _ => ?_)]
  · rw [sumN_swap]
    unfold hSum
    refine sumN_congr fun i hi => ?_
    obtain ⟨p1, p2, p3⟩ := ixL_ok (hin i hi)
    show sumN (fun s => if (atK l i).p = gi (placesL2 a b) s then gi (heightsL a b) s * (atK l i).m else 0) (placesL2 a b).length = (atK l i).m * hAt a b (atK l i).p
    rw [sumN_congr (g := fun s => if s = ixL (placesL2 a b) (atK l i).p then gi (heightsL a b) s * (atK l i).m else 0) (fun s hs => ?_), sumN_pick, if_pos p1]
    · unfold hAt; rw [Int.mul_comm]
    · by_cases e : s = ixL (placesL2 a b) (atK l i).p
      · rw [if_pos e, if_pos (by rw [e, p2])]
      · rw [if_neg e, if_neg (fun e2 => ?_)]
        rcases Nat.lt_trichotomy s (ixL (placesL2 a b) (atK l i).p) with h | h | h
        · exact p3 s h e2.symm
        · exact e h
        · have := places_gi (a := a) (b := b) h hs; omega
  · show gi (heightsL a b) s * massAt l (gi (placesL2 a b) s) = _
    rw [← mass_ind hl, ← sumN_mul]
    refine sumN_congr fun i _ => ?_
    by_cases e : (atK l i).p = gi (placesL2 a b) s <;> simp [e]
theorem worth_sums {a b : List Atom} (hp : linePair a b = 0) : hSum a b b - hSum a b a = apartL a b 1 := by
  obtain ⟨h1, h2, h3⟩ := linePair_ok hp
  rw [← heights_worth hp, ← hSum_mass h2 (fun i hi => mem_right h1 h2 hi), ← hSum_mass h1 (fun i hi => mem_left h1 h2 hi)]
  unfold worthTo
  rw [sumR_sumN]
  have : ∀ (f g : Nat → Int) n, sumN f n - sumN g n = sumN (fun s => f s - g s) n := fun f g n => by
    induction n with
    | zero => rfl
    | succ n ih => simp only [sumN]; omega
  rw [this]
  exact sumN_congr fun s _ => (Int.mul_sub _ _ _).symm
/-- the prices that the law makes of heights -/
def upTo (a b : List Atom) (k : Nat) : List Int := (List.range k).map fun i => -hAt a b (atK a i).p + gi (heightsL a b) 0
def vpTo (a b : List Atom) (k : Nat) : List Int := (List.range k).map fun j => hAt a b (atK b j).p - gi (heightsL a b) 0
theorem upTo_succ (a b : List Atom) (k : Nat) : upTo a b (k + 1) = upTo a b k ++ [-hAt a b (atK a k).p + gi (heightsL a b) 0] := by simp [upTo, List.range_succ]
theorem vpTo_succ (a b : List Atom) (k : Nat) : vpTo a b (k + 1) = vpTo a b k ++ [hAt a b (atK b k).p - gi (heightsL a b) 0] := by simp [vpTo, List.range_succ]
theorem upTo_length (a b : List Atom) (k : Nat) : (upTo a b k).length = k := by simp [upTo]
theorem vpTo_length (a b : List Atom) (k : Nat) : (vpTo a b k).length = k := by simp [vpTo]
theorem upTo_gi {a b : List Atom} {k i : Nat} (h : i < k) : gi (upTo a b k) i = -hAt a b (atK a i).p + gi (heightsL a b) 0 := by simp [upTo, gi, h]
theorem vpTo_gi {a b : List Atom} {k i : Nat} (h : i < k) : gi (vpTo a b k) i = hAt a b (atK b i).p - gi (heightsL a b) 0 := by simp [vpTo, gi, h]
theorem heights_zero {a b : List Atom} (h : 0 < (placesL2 a b).length) : gi (heightsL a b) 0 = 0 := heightsL_gi h
theorem hAt_bd {a b : List Atom} (ha : valLoad a = 0) (hb : valLoad b = 0) (a1 : 1 ≤ a.length) (b1 : 1 ≤ b.length) (h : betB a b 1 = true) {p : Int} (hp : p ∈ placesL2 a b) : -198 ≤ hAt a b p ∧ hAt a b p ≤ 198 := by
  obtain ⟨p1, p2, _⟩ := ixL_ok hp
  have h0 : 0 < (placesL2 a b).length := by omega
  have h1 := heights_far h0 p1
  rw [heights_zero h0] at h1
  have h2 := dist_in (Int.le_refl (distI (gi (placesL2 a b) 0) (gi (placesL2 a b) (ixL (placesL2 a b) p))))
  have h3 := dist_in (Int.le_refl (distI 0 (gi (heightsL a b) (ixL (placesL2 a b) p))))
  have m0 : gi (placesL2 a b) 0 ∈ placesL2 a b := by rw [gi_get h0]; exact List.getElem_mem h0
  have m1 : gi (placesL2 a b) (ixL (placesL2 a b) p) ∈ placesL2 a b := by rw [p2]; exact hp
  have s1 := span ha hb a1 b1 h m0 m1
  have s2 := span ha hb a1 b1 h m1 m0
  have h4 : distI (gi (placesL2 a b) 0) (gi (placesL2 a b) (ixL (placesL2 a b) p)) ≤ 198 := by unfold distI; split <;> omega
  unfold hAt
  omega
theorem prices_line {a b : List Atom} (hp : linePair a b = 0) (a1 : 1 ≤ a.length) (a5 : a.length ≤ 5) (b1 : 1 ≤ b.length) (b5 : b.length ≤ 5) (h : betB a b 1 = true) :
    prcErr (betT a b 1) (upTo a b a.length) (vpTo a b b.length) = 0 ∧ worV (masL a) (masL b) (betT a b 1) (upTo a b a.length) (vpTo a b b.length) = apartL a b 1 := by
  obtain ⟨h1, h2, h3⟩ := linePair_ok hp
  have hT := bet_ok (.inl rfl) a1 a5 b1 b5 h
  have m0 : 0 < (placesL2 a b).length := by have := (ixL_ok (mem_left h1 h2 a1)).1; omega
  have hz := heights_zero m0
  have htl := hT.len
  have hrl := hT.cols 0 (by omega)
  have hU : ∀ i, i < a.length → -1000 ≤ gi (upTo a b a.length) i ∧ gi (upTo a b a.length) i ≤ 1000 := fun i hi => by
    rw [upTo_gi hi, hz]
    have := hAt_bd h1 h2 a1 b1 h (mem_left h1 h2 hi)
    omega
  have hV : ∀ i, i < b.length → -1000 ≤ gi (vpTo a b b.length) i ∧ gi (vpTo a b b.length) i ≤ 1000 := fun i hi => by
    rw [vpTo_gi hi, hz]
    have := hAt_bd h1 h2 a1 b1 h (mem_right h1 h2 hi)
    omega
  have hpr : prB (betT a b 1) (upTo a b a.length) (vpTo a b b.length) = true := by
    unfold prB
    rw [htl, hrl, rowOk_of (upTo_length _ _ _), rowOk_of (vpTo_length _ _ _), okRow_yes (fun k hk => withinB_iff.2 (hU k (by rwa [upTo_length] at hk))), okRow_yes (fun k hk => withinB_iff.2 (hV k (by rwa [vpTo_length] at hk)))]
    rfl
  have hfe : feasB (betT a b 1) (upTo a b a.length) (vpTo a b b.length) = true := feasB_yes fun i j hi hj => by
    rw [htl] at hi
    rw [hrl] at hj
    refine decide_eq_true ?_
    rw [upTo_gi hi, vpTo_gi hj, betT_tg hi hj, hz]
    have := dist_in (hAt_far (mem_left h1 h2 hi) (mem_right h1 h2 hj))
    show _ ≤ distI (atK a i).p (atK b j).p
    omega
  have he : prcErr (betT a b 1) (upTo a b a.length) (vpTo a b b.length) = 0 := by
    unfold prcErr
    rw [tabB_of hT, hpr, hfe]; rfl
  refine ⟨he, ?_⟩
  unfold worV
  rw [if_pos he, masL_length, masL_length, ← worth_sums hp]
  unfold worthT hSum
  rw [sumN_congr (f := fun i => gi (masL a) i * gi (upTo a b a.length) i) (g := fun i => (-1) * ((atK a i).m * hAt a b (atK a i).p)) (fun i hi => by rw [masL_gi hi, upTo_gi hi, hz, Int.add_zero, Int.mul_neg]; omega)]
  rw [sumN_congr (f := fun j => gi (masL b) j * gi (vpTo a b b.length) j) (g := fun j => (atK b j).m * hAt a b (atK b j).p) (fun j hj => by rw [masL_gi hj, vpTo_gi hj, hz, Int.sub_zero])]
  rw [sumN_mul]
  omega
end Go.Proofs.Ytfhgnmijigdlmaa.Tr
