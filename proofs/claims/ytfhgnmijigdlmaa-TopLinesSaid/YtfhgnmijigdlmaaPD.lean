/- The places of two loads; areas; heights; joins. No program in sight. -/
import Derived.Test.YtfhgnmijigdlmaaPC
namespace Go.Proofs.Ytfhgnmijigdlmaa

def massAt (l : List Atom) (p : Int) : Int := match l.find? (fun x => decide (x.p = p)) with | some x => x.m | none => 0
theorem massAt_hit {P M : Int} {l : List Atom} (h : isListB P M l = true) {k : Nat} (hk : k < l.length) : massAt l l[k].p = l[k].m := by
  have hp := isListB_pw h
  unfold massAt
  have : l.find? (fun x => decide (x.p = l[k].p)) = some l[k] := by
    rw [List.find?_eq_some_iff_getElem]
    refine ⟨by simp, k, hk, rfl, fun j hj => ?_⟩
    rw [List.pairwise_iff_getElem] at hp
    have := hp j k (by omega) hk hj
    simp; omega
  rw [this]
theorem massAt_miss {l : List Atom} {p : Int} (h : ∀ x ∈ l, x.p ≠ p) : massAt l p = 0 := by
  unfold massAt
  have : l.find? (fun x => decide (x.p = p)) = none := by
    rw [List.find?_eq_none]; intro x hx; simpa using h x hx
  rw [this]
theorem massAt_cons (x : Atom) (l : List Atom) (p : Int) : massAt (x :: l) p = if x.p = p then x.m else massAt l p := by
  unfold massAt
  rw [List.find?_cons]
  by_cases h : x.p = p <;> simp [h]
theorem massAt_bd {l : List Atom} (hF : Fine l) (p : Int) : 0 ≤ massAt l p ∧ massAt l p ≤ 1000 := by
  unfold massAt
  split
  · next x hx =>
    have := List.mem_of_find?_eq_some hx
    obtain ⟨j, hj, rfl⟩ := List.getElem_of_mem this
    have := (hF.2 j hj).2
    omega
  · omega
theorem count_units : ∀ {l : List Atom}, l.Pairwise (fun x y => x.p < y.p) → (∀ x ∈ l, 0 ≤ x.m) → ∀ p : Int, ((unitsL l).count p : Int) = massAt l p
  | [], _, _, p => by simp [unitsL, massAt]
  | x :: l, hp, hm, p => by
    have ih := count_units (l := l) (List.pairwise_cons.1 hp).2 (fun y hy => hm y (List.mem_cons_of_mem _ hy)) p
    have e : unitsL (x :: l) = List.replicate x.m.toNat x.p ++ unitsL l := by simp [unitsL]
    rw [e, List.count_append, List.count_replicate, massAt_cons]
    by_cases h : x.p = p
    · rw [if_pos h, if_pos (by simpa using h)]
      have : massAt l p = 0 := massAt_miss fun y hy => by have := (List.pairwise_cons.1 hp).1 y hy; omega
      have hx := hm x List.mem_cons_self
      omega
    · rw [if_neg h, if_neg (by simpa using h)]; omega
theorem load_pw {l : List Atom} (h : valLoad l = 0) : l.Pairwise (fun x y => x.p < y.p) := isListB_pw (listErr_ok h).2
theorem load_count {l : List Atom} (h : valLoad l = 0) (p : Int) : ((unitsL l).count p : Int) = massAt l p :=
  count_units (load_pw h) (fun x hx => by have := (isListB_mem (listErr_ok h).2 hx).2; omega) p
theorem load_in {l : List Atom} (h : valLoad l = 0) : ∀ x ∈ unitsL l, -1000 ≤ x ∧ x ≤ 1000 := fun x hx => by
  obtain ⟨k, hk, rfl⟩ := List.getElem_of_mem hx
  have := (load_asc h).2 k hk
  rwa [gi_at, List.getElem?_eq_getElem hk, Option.getD_some] at this
theorem countP_step (L : List Int) (t : Int) : L.countP (fun x => decide (x ≤ t)) = L.countP (fun x => decide (x ≤ t - 1)) + L.count t := by
  induction L with
  | nil => rfl
  | cons x L ih =>
    rw [List.countP_cons, List.countP_cons, List.count_cons, ih]
    by_cases h1 : x = t
    · subst h1
      rw [if_pos (by simp), if_neg (by simp; omega), if_pos (by simp)]; omega
    · rw [if_neg (c := (x == t) = true) (by simpa using h1)]
      by_cases h2 : x ≤ t - 1
      · rw [if_pos (by simp; omega), if_pos (by simpa using h2)]; omega
      · rw [if_neg (by simp; omega), if_neg (by simpa using h2)]; omega
/-- how much lies up to t -/
def bel (l : List Atom) (t : Int) : Int := belTo l t l.length
theorem bel_cnt {l : List Atom} (h : valLoad l = 0) (t : Int) : bel l t = ((unitsL l).countP (fun x => decide (x ≤ t)) : Nat) := bel_count (fine_load h) t
theorem bel_step {l : List Atom} (h : valLoad l = 0) (t : Int) : bel l t = bel l (t - 1) + massAt l t := by
  rw [bel_cnt h, bel_cnt h, countP_step, ← load_count h]; omega
theorem bel_low {l : List Atom} (h : valLoad l = 0) {t : Int} (ht : t < -1000) : bel l t = 0 := by
  rw [bel_cnt h, List.countP_eq_zero.2]
  · rfl
  · intro x hx; have := load_in h x hx; simp; omega
theorem bel_high {l : List Atom} (h : valLoad l = 0) {t : Int} (ht : 1000 ≤ t) : bel l t = totalL l := by
  rw [bel_cnt h, List.countP_eq_length.2, units_len (fine_load h)]
  intro x hx; have := load_in h x hx; simp; omega
def onPlace (a b : List Atom) (p : Int) : Bool := decide (0 < massAt a p) || decide (0 < massAt b p)
/-- the places of both loads among the first n ones from -1000 on -/
def placesTo (a b : List Atom) (n : Nat) : List Int := ((List.range n).map thr).filter (onPlace a b)
def placesL2 (a b : List Atom) : List Int := placesTo a b 2001
theorem placesTo_succ (a b : List Atom) (n : Nat) : placesTo a b (n + 1) = if onPlace a b (thr n) then placesTo a b n ++ [thr n] else placesTo a b n := by
  unfold placesTo
  rw [List.range_succ, List.map_append, List.filter_append]
  by_cases h : onPlace a b (thr n) = true
  · rw [if_pos h]; simp [h]
  · rw [if_neg h]; simp [h]
theorem onPlace_no {a b : List Atom} (ha : Fine a) (hb : Fine b) {p : Int} (h : ¬ onPlace a b p = true) : massAt a p = 0 ∧ massAt b p = 0 := by
  unfold onPlace at h
  have h1 := massAt_bd ha p
  have h2 := massAt_bd hb p
  simp at h
  omega
theorem places_mem {a b : List Atom} {n : Nat} {p : Int} : p ∈ placesTo a b n ↔ (-1000 ≤ p ∧ p < (n : Int) - 1000) ∧ onPlace a b p = true := by
  unfold placesTo
  rw [List.mem_filter, List.mem_map]
  constructor
  · rintro ⟨⟨i, hi, rfl⟩, h⟩
    have := List.mem_range.1 hi
    unfold thr at *
    exact ⟨by omega, h⟩
  · rintro ⟨h1, h2⟩
    refine ⟨⟨(p + 1000).toNat, List.mem_range.2 (by omega), by unfold thr; omega⟩, h2⟩
theorem places_pw (a b : List Atom) (n : Nat) : (placesTo a b n).Pairwise (· < ·) := by
  unfold placesTo
  refine List.Pairwise.filter _ ?_
  rw [List.pairwise_map]
  refine List.Pairwise.imp ?_ List.pairwise_lt_range
  intro i j hij; unfold thr; omega
def lastD (L : List Int) (d : Int) : Int := L.getLast?.getD d
theorem gi_snoc_last (L : List Int) (x : Int) : gi (L ++ [x]) L.length = x := by simp [gi]
theorem gi_snoc_lt {L : List Int} {x : Int} {i : Nat} (h : i < L.length) : gi (L ++ [x]) i = gi L i := by simp [gi, List.getElem?_append_left h]
/-- the gap of the two heaps -/
def gapD (a b : List Atom) (t : Int) : Int := bel a t - bel b t
/-- the area, place by place: the first n stretches -/
def areaR (a b : List Atom) (L : List Int) (n : Nat) : Int := sumR (fun i => distI (gapD a b (gi L i)) 0 * (gi L (i + 1) - gi L i)) n
theorem areaR_snoc {a b : List Atom} {L : List Int} {x : Int} {n : Nat} (h : n + 1 ≤ L.length) : areaR a b (L ++ [x]) n = areaR a b L n := by
  unfold areaR
  refine sumR_congr (n := n) (fun i hi => ?_) _ (Nat.le_refl _)
  rw [gi_snoc_lt (by omega), gi_snoc_lt (by omega)]
theorem gap_step {a b : List Atom} (ha : valLoad a = 0) (hb : valLoad b = 0) (t : Int) : gapD a b t = gapD a b (t - 1) + massAt a t - massAt b t := by
  unfold gapD; rw [bel_step ha, bel_step hb]; omega
/-- what holds of the places among the first n + 1 ones -/
structure PlSt (a b : List Atom) (n : Nat) (L : List Int) : Prop where
  gap : gapD a b (thr n) = if L = [] then 0 else gapD a b (gi L (L.length - 1))
  low : L ≠ [] → gi L (L.length - 1) ≤ thr n
  each : ∀ i, i < L.length → gapD a b (gi L i) = (if i = 0 then 0 else gapD a b (gi L (i - 1))) + massAt a (gi L i) - massAt b (gi L i)
  area : if L = [] then sumR (fun i => distI (gapD a b (thr i)) 0) n = 0 else areaR a b L (L.length - 1) + distI (gapD a b (gi L (L.length - 1))) 0 * (thr n - gi L (L.length - 1)) = sumR (fun i => distI (gapD a b (thr i)) 0) n
theorem plSt_place {a b : List Atom} (_ha : valLoad a = 0) (_hb : valLoad b = 0) {n : Nat} {L : List Int} {g : Int} (hg : g = if L = [] then 0 else gapD a b (gi L (L.length - 1))) (hstep : gapD a b (thr n) = g + massAt a (thr n) - massAt b (thr n))
    (each : ∀ i, i < L.length → gapD a b (gi L i) = (if i = 0 then 0 else gapD a b (gi L (i - 1))) + massAt a (gi L i) - massAt b (gi L i))
    (harea : (if L = [] then 0 else areaR a b L (L.length - 1) + distI (gapD a b (gi L (L.length - 1))) 0 * (thr n - gi L (L.length - 1))) = sumR (fun i => distI (gapD a b (thr i)) 0) n) : PlSt a b n (L ++ [thr n]) := by
  have el : (L ++ [thr n]).length - 1 = L.length := by simp
  have ne : L ++ [thr n] ≠ [] := by simp
  refine ⟨?_, ?_, ?_, ?_⟩
  · rw [if_neg ne, el, gi_snoc_last]
  · intro _; rw [el, gi_snoc_last]; omega
  · intro i hi
    rw [List.length_append] at hi
    simp only [List.length_cons, List.length_nil] at hi
    by_cases e : i = L.length
    · subst e
      rw [gi_snoc_last, hstep, hg]
      by_cases h0 : L = []
      · subst h0; simp
      · have : L.length ≠ 0 := fun h => h0 (List.length_eq_zero_iff.1 h)
        rw [if_neg h0, if_neg this, gi_snoc_lt (by omega)]
    · rw [gi_snoc_lt (by omega), each i (by omega)]
      by_cases h0 : i = 0
      · rw [if_pos h0, if_pos h0]
      · rw [if_neg h0, if_neg h0, gi_snoc_lt (by omega)]
  · rw [if_neg ne, el, gi_snoc_last, ← harea]
    by_cases h0 : L = []
    · subst h0; simp [areaR, sumR]
    · have hl : L.length ≠ 0 := fun h => h0 (List.length_eq_zero_iff.1 h)
      rw [if_neg h0]
      obtain ⟨k, hk⟩ : ∃ k, L.length = k + 1 := ⟨L.length - 1, by omega⟩
      rw [hk, Nat.add_sub_cancel]
      have e1 : areaR a b (L ++ [thr n]) (k + 1) = areaR a b (L ++ [thr n]) k + distI (gapD a b (gi (L ++ [thr n]) k)) 0 * (gi (L ++ [thr n]) (k + 1) - gi (L ++ [thr n]) k) := rfl
      have e2 : gi (L ++ [thr n]) (k + 1) = thr n := by rw [← hk]; exact gi_snoc_last _ _
      rw [e1, e2, areaR_snoc (by omega), gi_snoc_lt (by omega)]
      omega
theorem plSt_zero {a b : List Atom} (ha : valLoad a = 0) (hb : valLoad b = 0) : PlSt a b 0 (placesTo a b 1) := by
  have h0 : gapD a b (thr 0 - 1) = 0 := by unfold gapD thr; rw [bel_low ha (by omega), bel_low hb (by omega)]; rfl
  have hs := gap_step ha hb (thr 0)
  rw [h0] at hs
  rw [show (1 : Nat) = 0 + 1 from rfl, placesTo_succ]
  have e0 : placesTo a b 0 = [] := rfl
  rw [e0]
  by_cases h : onPlace a b (thr 0) = true
  · rw [if_pos h]
    exact plSt_place ha hb (g := 0) (by simp) hs (fun i hi => by simp at hi) (by simp [sumR])
  · rw [if_neg h]
    obtain ⟨z1, z2⟩ := onPlace_no (fine_load ha) (fine_load hb) h
    refine ⟨by rw [hs, z1, z2]; simp, fun h => absurd rfl h, fun i hi => by simp at hi, by simp [sumR]⟩
theorem plSt_at {a b : List Atom} (ha : valLoad a = 0) (hb : valLoad b = 0) : ∀ n, PlSt a b n (placesTo a b (n + 1))
  | 0 => plSt_zero ha hb
  | n + 1 => by
    have ih := plSt_at ha hb n
    have et : thr (n + 1) - 1 = thr n := by unfold thr; omega
    have hs := gap_step ha hb (thr (n + 1))
    rw [et, ih.gap] at hs
    have hsum : sumR (fun i => distI (gapD a b (thr i)) 0) (n + 1) = sumR (fun i => distI (gapD a b (thr i)) 0) n + distI (gapD a b (thr n)) 0 := rfl
    rw [placesTo_succ]
    by_cases h : onPlace a b (thr (n + 1)) = true
    · rw [if_pos h]
      refine plSt_place ha hb rfl hs ih.each ?_
      have ha' := ih.area
      rw [hsum, ih.gap]
      by_cases h0 : placesTo a b (n + 1) = []
      · rw [if_pos h0] at ha' ⊢; rw [if_pos h0, ha']; rfl
      · rw [if_neg h0] at ha' ⊢; rw [if_neg h0, ← ha', show thr (n + 1) = thr n + 1 by omega]
        generalize distI (gapD a b (gi (placesTo a b (n + 1)) ((placesTo a b (n + 1)).length - 1))) 0 = D
        generalize gi (placesTo a b (n + 1)) ((placesTo a b (n + 1)).length - 1) = x
        rw [show thr n + 1 - x = (thr n - x) + 1 by omega, Int.mul_add, Int.mul_one]
        omega
    · rw [if_neg h]
      obtain ⟨z1, z2⟩ := onPlace_no (fine_load ha) (fine_load hb) h
      have hg : gapD a b (thr (n + 1)) = if placesTo a b (n + 1) = [] then 0 else gapD a b (gi (placesTo a b (n + 1)) ((placesTo a b (n + 1)).length - 1)) := by rw [hs, z1, z2]; omega
      refine ⟨hg, fun h0 => by have := ih.low h0; omega, ih.each, ?_⟩
      have ha' := ih.area
      rw [hsum, ih.gap]
      by_cases h0 : placesTo a b (n + 1) = []
      · rw [if_pos h0] at ha' ⊢; rw [if_pos h0, ha']; rfl
      · rw [if_neg h0] at ha' ⊢; rw [if_neg h0, ← ha', show thr (n + 1) = thr n + 1 by omega]
        generalize distI (gapD a b (gi (placesTo a b (n + 1)) ((placesTo a b (n + 1)).length - 1))) 0 = D
        generalize gi (placesTo a b (n + 1)) ((placesTo a b (n + 1)).length - 1) = x
        rw [show thr n + 1 - x = (thr n - x) + 1 by omega, Int.mul_add, Int.mul_one]
        omega
theorem distI_sub (x y : Int) : distI (x - y) 0 = distI y x := by unfold distI; split <;> split <;> omega
theorem areaTo_gap (a b : List Atom) (n : Nat) : areaTo a b n = sumR (fun i => distI (gapD a b (thr i)) 0) n := by
  unfold areaTo
  refine sumR_congr (n := n) (fun i _ => ?_) _ (Nat.le_refl _)
  unfold gapD thr bel
  rw [distI_sub]
theorem area_end {a b : List Atom} (h1 : valLoad a = 0) (h2 : valLoad b = 0) {n m : Nat} (hm : n + 1 = m) (hz : gapD a b (thr n) = 0) : areaR a b (placesTo a b m) ((placesTo a b m).length - 1) = sumR (fun i => distI (gapD a b (thr i)) 0) n := by
  subst hm
  have hs := plSt_at h1 h2 n
  have hg := hs.gap
  have ha := hs.area
  by_cases h0 : placesTo a b (n + 1) = []
  · rw [if_pos h0] at ha
    rw [ha, h0]; rfl
  · rw [if_neg h0] at ha hg
    rw [← ha, ← hg, hz, show distI 0 0 = 0 from rfl]; omega
theorem gap_end {a b : List Atom} (h : linePair a b = 0) : gapD a b (thr 2000) = 0 := by
  obtain ⟨h1, h2, h3⟩ := linePair_ok h
  unfold gapD thr; rw [bel_high h1 (by omega), bel_high h2 (by omega)]; omega
/-- the area, place by place, is the sum of the distances -/
theorem areaR_said {a b : List Atom} (h : linePair a b = 0) : areaR a b (placesL2 a b) ((placesL2 a b).length - 1) = apartL a b 1 := by
  obtain ⟨h1, h2, h3⟩ := linePair_ok h
  rw [← area_said h, areaTo_gap]
  exact area_end h1 h2 rfl (gap_end h)
/-- what heights are worth: the first n places -/
def worthTo (a b : List Atom) (L h : List Int) (n : Nat) : Int := sumR (fun i => gi h i * (massAt b (gi L i) - massAt a (gi L i))) n
theorem worth_abel {a b : List Atom} {n : Nat} {L h : List Int} (hs : PlSt a b n L) : ∀ k, k + 1 ≤ L.length → worthTo a b L h (k + 1) = sumR (fun i => gapD a b (gi L i) * (gi h (i + 1) - gi h i)) k - gi h k * gapD a b (gi L k)
  | 0, hk => by
    have := hs.each 0 hk
    rw [if_pos rfl] at this
    unfold worthTo
    simp only [sumR]
    rw [this]
    grind
  | k + 1, hk => by
    have ih := worth_abel (h := h) hs k (by omega)
    have e := hs.each (k + 1) hk
    rw [if_neg (by omega), Nat.add_sub_cancel] at e
    have e1 : worthTo a b L h (k + 1 + 1) = worthTo a b L h (k + 1) + gi h (k + 1) * (massAt b (gi L (k + 1)) - massAt a (gi L (k + 1))) := rfl
    rw [e1, ih]
    simp only [sumR]
    rw [e]
    grind
theorem worth_end {a b : List Atom} {h : List Int} (h1 : valLoad a = 0) (h2 : valLoad b = 0) {n m : Nat} (hm : n + 1 = m) (hz : gapD a b (thr n) = 0) : worthTo a b (placesTo a b m) h (placesTo a b m).length = sumR (fun i => gapD a b (gi (placesTo a b m) i) * (gi h (i + 1) - gi h i)) ((placesTo a b m).length - 1) := by
  subst hm
  have hs := plSt_at h1 h2 n
  have hg := hs.gap
  by_cases h0 : placesTo a b (n + 1) = []
  · rw [h0]; rfl
  · rw [if_neg h0] at hg
    have hl : (placesTo a b (n + 1)).length ≠ 0 := fun h => h0 (List.length_eq_zero_iff.1 h)
    have hw := worth_abel (h := h) hs ((placesTo a b (n + 1)).length - 1) (by omega)
    rw [show (placesTo a b (n + 1)).length - 1 + 1 = (placesTo a b (n + 1)).length by omega] at hw
    rw [hw, ← hg, hz]
    omega
theorem worth_said {a b : List Atom} {h : List Int} (hp : linePair a b = 0) : worthTo a b (placesL2 a b) h (placesL2 a b).length = sumR (fun i => gapD a b (gi (placesL2 a b) i) * (gi h (i + 1) - gi h i)) ((placesL2 a b).length - 1) := by
  obtain ⟨h1, h2, h3⟩ := linePair_ok hp
  exact worth_end h1 h2 rfl (gap_end hp)
theorem places_gi {a b : List Atom} {i j : Nat} (hij : i < j) (hj : j < (placesL2 a b).length) : gi (placesL2 a b) i < gi (placesL2 a b) j := by
  have := places_pw a b 2001
  rw [List.pairwise_iff_getElem] at this
  have h := this i j (by unfold placesL2 at hj; omega) hj hij
  unfold placesL2 at *
  rw [gi_at, gi_at, List.getElem?_eq_getElem (by omega), List.getElem?_eq_getElem hj]
  exact h
theorem places_bd {a b : List Atom} {i : Nat} (hi : i < (placesL2 a b).length) : -1000 ≤ gi (placesL2 a b) i ∧ gi (placesL2 a b) i ≤ 1000 := by
  have := (places_mem (a := a) (b := b) (n := 2001)).1 (gi_mem hi)
  unfold placesL2
  omega
/-- not steeper than 1 -/
def gentle (L h : List Int) (n : Nat) : Prop := ∀ i, i + 1 < n → distI (gi h i) (gi h (i + 1)) ≤ gi L (i + 1) - gi L i
theorem worth_le {a b : List Atom} {h : List Int} (hp : linePair a b = 0) (hg : gentle (placesL2 a b) h (placesL2 a b).length) : worthTo a b (placesL2 a b) h (placesL2 a b).length ≤ apartL a b 1 := by
  rw [worth_said hp, ← areaR_said hp]
  unfold areaR
  refine sumR_mono (n := (placesL2 a b).length - 1) (fun i hi => ?_) _ (Nat.le_refl _)
  have h1 := hg i (by omega)
  generalize gapD a b (gi (placesL2 a b) i) = D
  generalize gi (placesL2 a b) (i + 1) - gi (placesL2 a b) i = d at *
  have hd : -(d) ≤ gi h (i + 1) - gi h i ∧ gi h (i + 1) - gi h i ≤ d := by unfold distI at h1; split at h1 <;> omega
  generalize gi h (i + 1) - gi h i = e at *
  have hd0 : 0 ≤ d := by omega
  unfold distI
  split
  · have : (0 - D) * e ≥ (0 - D) * (-d) := Int.mul_le_mul_of_nonneg_left hd.1 (by omega)
    grind
  · have : (D - 0) * e ≤ (D - 0) * d := Int.mul_le_mul_of_nonneg_left hd.2 (by omega)
    simpa using this
/-- the sign of a gap -/
def sgnI (d : Int) : Int := if d < 0 then -1 else if 0 < d then 1 else 0
/-- the heights that the program returns -/
def heightAt (a b : List Atom) : Nat → Int
  | 0 => 0
  | i + 1 => heightAt a b i + sgnI (gapD a b (gi (placesL2 a b) i)) * (gi (placesL2 a b) (i + 1) - gi (placesL2 a b) i)
def heightsL (a b : List Atom) : List Int := (List.range (placesL2 a b).length).map (heightAt a b)
theorem heightsL_length (a b : List Atom) : (heightsL a b).length = (placesL2 a b).length := by simp [heightsL]
theorem heightsL_gi {a b : List Atom} {i : Nat} (h : i < (placesL2 a b).length) : gi (heightsL a b) i = heightAt a b i := by simp [heightsL, gi, h]
theorem sgn_mul (s d : Int) (h : 0 ≤ d) : -d ≤ sgnI s * d ∧ sgnI s * d ≤ d := by unfold sgnI; split <;> (try split) <;> omega
theorem heights_gentle (a b : List Atom) : gentle (placesL2 a b) (heightsL a b) (placesL2 a b).length := fun i hi => by
  rw [heightsL_gi (by omega), heightsL_gi hi]
  have hd := places_gi (a := a) (b := b) (show i < i + 1 by omega) hi
  have := sgn_mul (gapD a b (gi (placesL2 a b) i)) (gi (placesL2 a b) (i + 1) - gi (placesL2 a b) i) (by omega)
  simp only [heightAt]
  generalize sgnI (gapD a b (gi (placesL2 a b) i)) * (gi (placesL2 a b) (i + 1) - gi (placesL2 a b) i) = x at *
  unfold distI; split <;> omega
theorem heightAt_bd (a b : List Atom) : ∀ i, i < (placesL2 a b).length → -(gi (placesL2 a b) i - gi (placesL2 a b) 0) ≤ heightAt a b i ∧ heightAt a b i ≤ gi (placesL2 a b) i - gi (placesL2 a b) 0
  | 0, _ => by simp [heightAt]
  | i + 1, hi => by
    have ih := heightAt_bd a b i (by omega)
    have hd := places_gi (a := a) (b := b) (show i < i + 1 by omega) hi
    have := sgn_mul (gapD a b (gi (placesL2 a b) i)) (gi (placesL2 a b) (i + 1) - gi (placesL2 a b) i) (by omega)
    simp only [heightAt]
    generalize sgnI (gapD a b (gi (placesL2 a b) i)) * (gi (placesL2 a b) (i + 1) - gi (placesL2 a b) i) = x at *
    omega
theorem heights_bd {a b : List Atom} {i : Nat} (hi : i < (placesL2 a b).length) : -2000 ≤ heightAt a b i ∧ heightAt a b i ≤ 2000 := by
  have h1 := heightAt_bd a b i hi
  have h2 := places_bd (a := a) (b := b) hi
  have h3 := places_bd (a := a) (b := b) (i := 0) (by omega)
  omega
theorem heights_worth {a b : List Atom} (hp : linePair a b = 0) : worthTo a b (placesL2 a b) (heightsL a b) (placesL2 a b).length = apartL a b 1 := by
  rw [worth_said hp, ← areaR_said hp]
  unfold areaR
  refine sumR_congr (n := (placesL2 a b).length - 1) (fun i hi => ?_) _ (Nat.le_refl _)
  rw [heightsL_gi (by omega), heightsL_gi (by omega)]
  simp only [heightAt]
  generalize gapD a b (gi (placesL2 a b) i) = D
  generalize gi (placesL2 a b) (i + 1) - gi (placesL2 a b) i = d
  rw [show heightAt a b i + sgnI D * d - heightAt a b i = sgnI D * d by omega]
  unfold sgnI distI
  split
  · rw [if_pos (by omega)]; grind
  · split
    · rw [if_neg (by omega)]; grind
    · have : D = 0 := by omega
      subst this; simp
/-- a sum over the places -/
theorem places_sum {a b : List Atom} {f : Int → Int} (hf : ∀ p, ¬ onPlace a b p = true → f p = 0) : ∀ n, ((placesTo a b n).map f).sum = sumR (fun i => f (thr i)) n
  | 0 => rfl
  | n + 1 => by
    have ih := places_sum hf n
    rw [placesTo_succ]
    simp only [sumR]
    by_cases h : onPlace a b (thr n) = true
    · rw [if_pos h, List.map_append, List.sum_append, ih]; simp
    · rw [if_neg h, ih, hf _ h]; omega
theorem mass_sum {l : List Atom} (h : valLoad l = 0) : ∀ n, sumR (fun i => massAt l (thr i)) n = bel l ((n : Int) - 1001)
  | 0 => by rw [bel_low h (by omega)]; rfl
  | n + 1 => by
    simp only [sumR]
    rw [mass_sum h n, bel_step h (((n + 1 : Nat) : Int) - 1001)]
    have e : ((n + 1 : Nat) : Int) - 1001 = thr n := by unfold thr; omega
    rw [e]
    congr 2
    unfold thr; omega
end Go.Proofs.Ytfhgnmijigdlmaa
