/- Stretches follow each other from end to end. -/
import Derived.Test.YtodlbgncdggimaaP6
namespace Go.Proofs.Ytodlbgncdggimaa

/-- a number that all small denominators divide -/
def MM : Int := 955888052326228459513511038256280353796626534577600
theorem MM_dvd {d : Int} (h1 : 1 ≤ d) (h2 : d ≤ 120) : d ∣ MM := by
  have h : ∀ k : Fin 121, k.1 = 0 ∨ MM % (k.1 : Int) = 0 := by decide +kernel
  obtain ⟨n, rfl⟩ := Int.eq_ofNat_of_zero_le (a := d) (by omega)
  rcases h ⟨n, by omega⟩ with h | h
  · simp at h; omega
  · exact Int.dvd_of_emod_eq_zero h
theorem MM_pos : 0 < MM := by decide
def valQ (n d : Int) : Int := n * (MM / d)
theorem MM_div {d : Int} (h1 : 1 ≤ d) (h2 : d ≤ 120) : ∃ e, 0 < e ∧ d * e = MM ∧ MM / d = e := by
  obtain ⟨e, he⟩ := MM_dvd h1 h2
  have hp := MM_pos
  refine ⟨e, ?_, he.symm, ?_⟩
  · rw [he] at hp
    rcases Int.lt_trichotomy e 0 with h | h | h
    · have := Int.mul_neg_of_pos_of_neg (show 0 < d by omega) h; omega
    · subst h; simp at hp
    · exact h
  · rw [he]; exact Int.mul_ediv_cancel_left _ (by omega)
theorem less_val {n1 d1 n2 d2 : Int} (h1 : 1 ≤ d1) (h1' : d1 ≤ 120) (h2 : 1 ≤ d2) (h2' : d2 ≤ 120) : n1 * d2 < n2 * d1 ↔ valQ n1 d1 < valQ n2 d2 := by
  obtain ⟨e1, p1, q1, r1⟩ := MM_div h1 h1'
  obtain ⟨e2, p2, q2, r2⟩ := MM_div h2 h2'
  unfold valQ
  rw [r1, r2]
  have hp := MM_pos
  have k : 0 < e1 * e2 := Int.mul_pos p1 p2
  have a1 : n1 * d2 * (e1 * e2) = n1 * e1 * MM := by rw [← q2]; grind
  have a2 : n2 * d1 * (e1 * e2) = n2 * e2 * MM := by rw [← q1]; grind
  constructor
  · intro h
    have := Int.mul_lt_mul_of_pos_right h k
    rw [a1, a2] at this
    exact Int.lt_of_mul_lt_mul_right this (by omega)
  · intro h
    have := Int.mul_lt_mul_of_pos_right h hp
    rw [← a1, ← a2] at this
    exact Int.lt_of_mul_lt_mul_right this (by omega)

theorem dvd_cop {a n b : Int} (h : a ∣ n * b) (hc : Int.gcd n a = 1) : a ∣ b := by
  rw [← Int.natAbs_dvd_natAbs] at h ⊢
  rw [Int.natAbs_mul, Nat.mul_comm] at h
  exact Nat.Coprime.dvd_of_dvd_mul_right (by unfold Nat.Coprime; rw [Nat.gcd_comm]; exact hc) h
/-- a fraction in lowest terms -/
def Rd (n d : Int) : Prop := 1 ≤ d ∧ d ≤ 120 ∧ Int.gcd n d = 1
theorem Rd.one (n : Int) : Rd n 1 := ⟨by omega, by omega, by simp⟩
theorem Rd.eq {n1 d1 n2 d2 : Int} (h1 : Rd n1 d1) (h2 : Rd n2 d2) (h : valQ n1 d1 = valQ n2 d2) : n1 = n2 ∧ d1 = d2 := by
  have hx : n1 * d2 = n2 * d1 := by
    rcases Int.lt_trichotomy (n1 * d2) (n2 * d1) with g | g | g
    · have := (less_val h1.1 h1.2.1 h2.1 h2.2.1).1 g; omega
    · exact g
    · have := (less_val h2.1 h2.2.1 h1.1 h1.2.1).1 g; omega
  have c1 : d1 ∣ d2 := by
    have : d1 ∣ n1 * d2 := ⟨n2, by rw [hx, Int.mul_comm]⟩
    exact dvd_cop this h1.2.2
  have c2 : d2 ∣ d1 := by
    have : d2 ∣ n2 * d1 := ⟨n1, by rw [← hx, Int.mul_comm]⟩
    exact dvd_cop this h2.2.2
  have h3 := Int.le_of_dvd (by have := h2.1; omega) c1
  have h4 := Int.le_of_dvd (by have := h1.1; omega) c2
  have hd : d1 = d2 := by omega
  subst hd
  exact ⟨Int.eq_of_mul_eq_mul_right (by have := h1.1; omega) hx, rfl⟩
theorem rat_Rd {n d : Int} (h1 : 1 ≤ d) (h2 : d ≤ 120) : Rd (ratN n d) (ratD n d) ∧ valQ (ratN n d) (ratD n d) = valQ n d := by
  obtain ⟨g, hg, hs, e1, e2, hp, hle⟩ := ratD_pos (n := n) (show 0 < d by omega)
  have hgc : (Int.gcd n d : Int) = g := by
    unfold sgcd at hs
    rw [if_neg (by omega)] at hs
    exact hs
  refine ⟨⟨by omega, by omega, ?_⟩, ?_⟩
  · have h3 : Int.gcd (ratN n d * g) (ratD n d * g) = Int.gcd (ratN n d) (ratD n d) * g.natAbs := Int.gcd_mul_right ..
    rw [e1, e2] at h3
    have h4 : (Int.gcd n d) = g.natAbs := by omega
    rw [h4] at h3
    have h5 : 0 < g.natAbs := by omega
    exact (Nat.eq_of_mul_eq_mul_right h5 (by rw [Nat.one_mul]; exact h3)).symm
  · obtain ⟨e, p, q, r⟩ := MM_div h1 h2
    obtain ⟨e', p', q', r'⟩ := MM_div (d := ratD n d) (by omega) (by omega)
    unfold valQ
    rw [r, r']
    have h6 : e' = g * e := by
      have : ratD n d * e' = ratD n d * (g * e) := by rw [q', ← q, ← Int.mul_assoc, e1]
      exact Int.eq_of_mul_eq_mul_left (by omega) this
    rw [h6, ← Int.mul_assoc, e2]

/-! ### where two places meet -/
def meet (pl ws : List Int) (k i : Nat) : Int := valQ (ratN (cutN pl ws k i) (cutD pl k i)) (ratD (cutN pl ws k i) (cutD pl k i))
theorem cutN_opp (pl ws : List Int) (k i : Nat) : cutN pl ws i k = -(cutN pl ws k i) := by unfold cutN; omega
theorem cutD_opp' (pl : List Int) (k i : Nat) : cutD pl i k = -(cutD pl k i) := by unfold cutD; omega
theorem cut_Rd {pl ws : List Int} (hl : okLine pl = true) {k i : Nat} (hk : k < pl.length) (hi : i < pl.length) (hne : i ≠ k) : Rd (ratN (cutN pl ws k i) (cutD pl k i)) (ratD (cutN pl ws k i) (cutD pl k i)) := by
  rcases Nat.lt_or_ge k i with h | h
  · have := cutD_up hl h hi
    exact (rat_Rd (by omega) (by omega)).1
  · have h' : i < k := by omega
    have := cutD_down hl h' hk
    rw [← ratN_opp _ _ (by omega), ← ratD_opp _ _ (by omega)]
    exact (rat_Rd (by omega) (by omega)).1
theorem meet_comm {pl : List Int} (ws : List Int) (hl : okLine pl = true) {k i : Nat} (hki : k < i) (hi : i < pl.length) : meet pl ws i k = meet pl ws k i := by
  have := cutD_up hl hki hi
  unfold meet
  rw [cutN_opp, cutD_opp' pl k i, ratN_opp _ _ (by omega), ratD_opp _ _ (by omega)]
theorem meet_eq {pl : List Int} (ws : List Int) (hl : okLine pl = true) {k i : Nat} (hki : k < i) (hi : i < pl.length) : cutD pl k i * meet pl ws k i = cutN pl ws k i * MM := by
  have h := cutD_up hl hki hi
  unfold meet
  rw [(rat_Rd (by omega) (by omega)).2]
  obtain ⟨e, p, q, r⟩ := MM_div (d := cutD pl k i) (by omega) (by omega)
  unfold valQ
  rw [r, ← q]; grind
theorem meet_mid {pl : List Int} (ws : List Int) (hl : okLine pl = true) {i m j : Nat} (h1 : i < m) (h2 : m < j) (hj : j < pl.length) :
    0 < cutD pl i m ∧ 0 < cutD pl m j ∧ (cutD pl i m + cutD pl m j) * meet pl ws i j = cutD pl i m * meet pl ws i m + cutD pl m j * meet pl ws m j := by
  have a1 := cutD_up hl h1 (show m < pl.length by omega)
  have a2 := cutD_up hl h2 hj
  have e1 := meet_eq ws hl h1 (show m < pl.length by omega)
  have e2 := meet_eq ws hl h2 hj
  have e3 := meet_eq ws hl (show i < j by omega) hj
  have d : cutD pl i j = cutD pl i m + cutD pl m j := by unfold cutD; omega
  have n : cutN pl ws i j = cutN pl ws i m + cutN pl ws m j := by unfold cutN; omega
  refine ⟨by omega, by omega, ?_⟩
  rw [← d, e3, e1, e2, n, Int.add_mul]
theorem meet_ge {pl : List Int} (ws : List Int) (hl : okLine pl = true) {i m j : Nat} (h1 : i < m) (h2 : m < j) (hj : j < pl.length) {z : Int} (hz1 : z ≤ meet pl ws i m) (hz2 : z ≤ meet pl ws m j) : z ≤ meet pl ws i j := by
  obtain ⟨p1, p2, e⟩ := meet_mid ws hl h1 h2 hj
  have k1 := Int.mul_le_mul_of_nonneg_left hz1 (show 0 ≤ cutD pl i m by omega)
  have k2 := Int.mul_le_mul_of_nonneg_left hz2 (show 0 ≤ cutD pl m j by omega)
  refine Int.le_of_mul_le_mul_left (a := cutD pl i m + cutD pl m j) ?_ (by omega)
  rw [e, Int.add_mul]; omega
theorem meet_le {pl : List Int} (ws : List Int) (hl : okLine pl = true) {i m j : Nat} (h1 : i < m) (h2 : m < j) (hj : j < pl.length) {z : Int} (hz1 : meet pl ws i m ≤ z) (hz2 : meet pl ws m j ≤ z) : meet pl ws i j ≤ z := by
  obtain ⟨p1, p2, e⟩ := meet_mid ws hl h1 h2 hj
  have k1 := Int.mul_le_mul_of_nonneg_left hz1 (show 0 ≤ cutD pl i m by omega)
  have k2 := Int.mul_le_mul_of_nonneg_left hz2 (show 0 ≤ cutD pl m j by omega)
  refine Int.le_of_mul_le_mul_left (a := cutD pl i m + cutD pl m j) ?_ (by omega)
  rw [e, Int.add_mul]; omega

/-! ### a stretch, by values -/
def vf (s : Str) : Int := valQ s.fn s.fd
def vt (s : Str) : Int := valQ s.tn s.td
structure StrOK (pl ws : List Int) (F T : Int) (k : Nat) (s : Str) (q : Nat) : Prop where
  rf : Rd s.fn s.fd
  rt : Rd s.tn s.td
  lo : F ≤ vf s
  hi : vt s ≤ T
  los : ∀ i, i < k → i < q → meet pl ws i k ≤ vf s
  his : ∀ j, k < j → j < q → vt s ≤ meet pl ws k j
  lov : vf s = F ∨ ∃ i, i < k ∧ vf s = meet pl ws i k
  hiv : vt s = T ∨ ∃ j, k < j ∧ j < pl.length ∧ vt s = meet pl ws k j
theorem cut_ok {pl ws : List Int} (hl : okLine pl = true) {F T : Int} {k : Nat} (hk : k < pl.length) {s : Str} {q : Nat} (hq : q < pl.length) (h : StrOK pl ws F T k s q) : StrOK pl ws F T k (cut pl ws k s q) (q + 1) := by
  by_cases e : q = k
  · rw [cut, if_pos e]
    exact ⟨h.rf, h.rt, h.lo, h.hi, fun i h1 h2 => h.los i h1 (by omega), fun j h1 h2 => h.his j h1 (by omega), h.lov, h.hiv⟩
  · have hr := cut_Rd (ws := ws) hl hk hq e
    rcases Nat.lt_or_ge k q with hkq | hkq
    · have hm : meet pl ws k q = valQ (ratN (cutN pl ws k q) (cutD pl k q)) (ratD (cutN pl ws k q) (cutD pl k q)) := rfl
      rw [cut, if_neg e, if_pos hkq]
      split
      · rename_i hc
        rw [less_val hr.1 hr.2.1 h.rt.1 h.rt.2.1, ← hm] at hc
        have hv : vt ⟨s.fn, s.fd, ratN (cutN pl ws k q) (cutD pl k q), ratD (cutN pl ws k q) (cutD pl k q)⟩ = meet pl ws k q := rfl
        have hv2 : valQ s.tn s.td = vt s := rfl
        refine ⟨h.rf, hr, h.lo, by have := h.hi; omega, fun i h1 h2 => h.los i h1 (by omega), fun j h1 h2 => ?_, h.lov, .inr ⟨q, hkq, hq, hv⟩⟩
        rw [hv]
        by_cases ej : j = q
        · subst ej; exact Int.le_refl _
        · have := h.his j h1 (by omega); omega
      · rename_i hc
        rw [less_val hr.1 hr.2.1 h.rt.1 h.rt.2.1, ← hm] at hc
        have hv2 : valQ s.tn s.td = vt s := rfl
        refine ⟨h.rf, h.rt, h.lo, h.hi, fun i h1 h2 => h.los i h1 (by omega), fun j h1 h2 => ?_, h.lov, h.hiv⟩
        by_cases ej : j = q
        · subst ej; omega
        · exact h.his j h1 (by omega)
    · have hqk : q < k := by omega
      have hm : meet pl ws q k = valQ (ratN (cutN pl ws k q) (cutD pl k q)) (ratD (cutN pl ws k q) (cutD pl k q)) := (meet_comm ws hl hqk hk).symm
      rw [cut, if_neg e, if_neg (by omega)]
      split
      · rename_i hc
        rw [less_val h.rf.1 h.rf.2.1 hr.1 hr.2.1, ← hm] at hc
        have hv : vf ⟨ratN (cutN pl ws k q) (cutD pl k q), ratD (cutN pl ws k q) (cutD pl k q), s.tn, s.td⟩ = meet pl ws q k := hm.symm
        have hv2 : valQ s.fn s.fd = vf s := rfl
        refine ⟨hr, h.rt, by have := h.lo; omega, h.hi, fun i h1 h2 => ?_, fun j h1 h2 => h.his j h1 (by omega), .inr ⟨q, hqk, hv⟩, h.hiv⟩
        rw [hv]
        by_cases ej : i = q
        · subst ej; exact Int.le_refl _
        · have := h.los i h1 (by omega); omega
      · rename_i hc
        rw [less_val h.rf.1 h.rf.2.1 hr.1 hr.2.1, ← hm] at hc
        have hv2 : valQ s.fn s.fd = vf s := rfl
        refine ⟨h.rf, h.rt, h.lo, h.hi, fun i h1 h2 => ?_, fun j h1 h2 => h.his j h1 (by omega), h.lov, h.hiv⟩
        by_cases ej : i = q
        · subst ej; omega
        · exact h.los i h1 (by omega)
theorem cutTo_ok {pl ws : List Int} (hl : okLine pl = true) {fr to : Int} {k : Nat} (hk : k < pl.length) : ∀ q, q ≤ pl.length → StrOK pl ws (valQ fr 1) (valQ to 1) k (cutTo pl ws k ⟨fr, 1, to, 1⟩ q) q
  | 0, _ => ⟨Rd.one _, Rd.one _, Int.le_refl _, Int.le_refl _, fun i _ h => by omega, fun j _ h => by omega, .inl rfl, .inl rfl⟩
  | q + 1, hq => cut_ok hl hk (by omega) (cutTo_ok hl hk q (by omega))

/-- up to where the first m stretches go -/
structure Upto (pl ws : List Int) (F T : Int) (m : Nat) (z : Int) : Prop where
  lo : F ≤ z
  all : ∀ i, i < m → T ≤ z ∨ ∃ j, m ≤ j ∧ j < pl.length ∧ meet pl ws i j ≤ z
  one : z = F ∨ ∃ i, i < m ∧ z ≤ T ∧ ∀ j, m ≤ j → j < pl.length → z ≤ meet pl ws i j
theorem upto_zero (pl ws : List Int) (F T : Int) : Upto pl ws F T 0 F := ⟨Int.le_refl _, fun i h => by omega, .inl rfl⟩
theorem upto_end {pl ws : List Int} {F T z : Int} (h1 : 1 ≤ pl.length) (hFT : F < T) (h : Upto pl ws F T pl.length z) : z = T := by
  rcases h.all 0 (by omega) with g | ⟨j, g1, g2, _⟩
  · rcases h.one with e | ⟨i, _, e, _⟩
    · omega
    · omega
  · omega
theorem upto_full {pl ws : List Int} (hl : okLine pl = true) {F T : Int} {m : Nat} (hm : m < pl.length) {s : Str} (hs : StrOK pl ws F T m s pl.length) {z : Int} (h : Upto pl ws F T m z) (hne : vf s < vt s) : z = vf s ∧ Upto pl ws F T (m + 1) (vt s) := by
  have hz1 : vf s ≤ z := by
    rcases hs.lov with e | ⟨i, hi, e⟩
    · have := h.lo; omega
    · rcases h.all i hi with g | ⟨j, g1, g2, g3⟩
      · have := hs.hi; omega
      · by_cases ej : j = m
        · subst ej; omega
        · have hmj : m < j := by omega
          have g4 := hs.his j hmj g2
          have g5 := meet_ge ws hl hi hmj g2 (z := vf s) (by omega) (by omega)
          omega
  have hz2 : z ≤ vf s := by
    rcases h.one with e | ⟨i, hi, _, g⟩
    · have := hs.lo; omega
    · have g1 := g m (Nat.le_refl _) hm
      have g2 := hs.los i hi (by omega)
      omega
  refine ⟨by omega, by have := hs.lo; omega, fun i hi => ?_, .inr ⟨m, by omega, hs.hi, fun j h1 h2 => hs.his j (by omega) h2⟩⟩
  rcases hs.hiv with e | ⟨j0, k1, k2, e⟩
  · exact .inl (by omega)
  · refine .inr ⟨j0, by omega, k2, ?_⟩
    by_cases ei : i = m
    · subst ei; omega
    · have hi' : i < m := by omega
      have g2 := hs.los i hi' (by omega)
      exact meet_le ws hl hi' k1 k2 (by omega) (by omega)
theorem upto_empty {pl ws : List Int} (hl : okLine pl = true) {F T : Int} {m : Nat} (hm : m < pl.length) {s : Str} (hs : StrOK pl ws F T m s pl.length) {z : Int} (h : Upto pl ws F T m z) (hne : vt s ≤ vf s) : Upto pl ws F T (m + 1) z := by
  have hz : vt s ≤ z := by
    rcases hs.lov with e | ⟨i, hi, e⟩
    · have := h.lo; omega
    · rcases h.all i hi with g | ⟨j, g1, g2, g3⟩
      · have := hs.hi; omega
      · by_cases ej : j = m
        · subst ej; omega
        · have hmj : m < j := by omega
          have g4 := hs.his j hmj g2
          have g5 := meet_ge ws hl hi hmj g2 (z := vt s) (by omega) g4
          omega
  refine ⟨h.lo, fun i hi => ?_, ?_⟩
  · rcases hs.hiv with e | ⟨j0, k1, k2, e⟩
    · exact .inl (by omega)
    · by_cases ei : i = m
      · subst ei; exact .inr ⟨j0, by omega, k2, by omega⟩
      · have hi' : i < m := by omega
        rcases h.all i hi' with g | ⟨j, g1, g2, g3⟩
        · exact .inl g
        · by_cases ej : j = m
          · subst ej
            exact .inr ⟨j0, by omega, k2, meet_le ws hl hi' k1 k2 g3 (by omega)⟩
          · exact .inr ⟨j, by omega, g2, g3⟩
  · rcases h.one with e | ⟨i, hi, g1, g2⟩
    · exact .inl e
    · exact .inr ⟨i, by omega, g1, fun j h1 h2 => g2 j (by omega) h2⟩

/-- up to where the first m stretches go, as a fraction -/
def atS (pl ws : List Int) (fr to : Int) : Nat → Int × Int
  | 0 => (fr, 1)
  | m + 1 => if (strAt pl ws fr to m).fn = (strAt pl ws fr to m).tn ∧ (strAt pl ws fr to m).fd = (strAt pl ws fr to m).td then atS pl ws fr to m else ((strAt pl ws fr to m).tn, (strAt pl ws fr to m).td)
theorem at_upto {pl ws : List Int} (hl : okLine pl = true) {fr to : Int} : ∀ m, m ≤ pl.length → Rd (atS pl ws fr to m).1 (atS pl ws fr to m).2 ∧ Upto pl ws (valQ fr 1) (valQ to 1) m (valQ (atS pl ws fr to m).1 (atS pl ws fr to m).2) ∧
    (m < pl.length → (strAt pl ws fr to m).fn = (strAt pl ws fr to m).tn ∧ (strAt pl ws fr to m).fd = (strAt pl ws fr to m).td ∨ (strAt pl ws fr to m).fn = (atS pl ws fr to m).1 ∧ (strAt pl ws fr to m).fd = (atS pl ws fr to m).2) := by
  have key : ∀ m, m < pl.length → Rd (atS pl ws fr to m).1 (atS pl ws fr to m).2 → Upto pl ws (valQ fr 1) (valQ to 1) m (valQ (atS pl ws fr to m).1 (atS pl ws fr to m).2) →
      ((strAt pl ws fr to m).fn = (strAt pl ws fr to m).tn ∧ (strAt pl ws fr to m).fd = (strAt pl ws fr to m).td ∨ (strAt pl ws fr to m).fn = (atS pl ws fr to m).1 ∧ (strAt pl ws fr to m).fd = (atS pl ws fr to m).2) ∧
      Rd (atS pl ws fr to (m + 1)).1 (atS pl ws fr to (m + 1)).2 ∧ Upto pl ws (valQ fr 1) (valQ to 1) (m + 1) (valQ (atS pl ws fr to (m + 1)).1 (atS pl ws fr to (m + 1)).2) := by
    intro m hm hr hu
    have hs := cutTo_ok (ws := ws) (fr := fr) (to := to) hl hm pl.length (Nat.le_refl _)
    have hlt := less_val (n1 := (strRaw pl ws fr to m).fn) (n2 := (strRaw pl ws fr to m).tn) hs.rf.1 hs.rf.2.1 hs.rt.1 hs.rt.2.1
    by_cases hc : (strRaw pl ws fr to m).fn * (strRaw pl ws fr to m).td < (strRaw pl ws fr to m).tn * (strRaw pl ws fr to m).fd
    · have e : strAt pl ws fr to m = strRaw pl ws fr to m := by unfold strAt; rw [if_pos hc]
      have hv : vf (strRaw pl ws fr to m) < vt (strRaw pl ws fr to m) := hlt.1 hc
      obtain ⟨hz, hu'⟩ := upto_full hl hm hs hu hv
      have hne : ¬ ((strAt pl ws fr to m).fn = (strAt pl ws fr to m).tn ∧ (strAt pl ws fr to m).fd = (strAt pl ws fr to m).td) := by
        rw [e]
        rintro ⟨h1, h2⟩
        unfold vf vt at hv
        rw [h1, h2] at hv
        exact Int.lt_irrefl _ hv
      obtain ⟨q1, q2⟩ := Rd.eq hr hs.rf hz
      refine ⟨.inr (by rw [e]; exact ⟨q1.symm, q2.symm⟩), ?_⟩
      rw [atS, if_neg hne, e]
      exact ⟨hs.rt, hu'⟩
    · have e : strAt pl ws fr to m = ⟨0, 1, 0, 1⟩ := by unfold strAt; rw [if_neg hc]
      have hv : vt (strRaw pl ws fr to m) ≤ vf (strRaw pl ws fr to m) := by
        exact Int.not_lt.1 (fun h => hc (hlt.2 h))
      have hu' := upto_empty hl hm hs hu hv
      have heq : (strAt pl ws fr to m).fn = (strAt pl ws fr to m).tn ∧ (strAt pl ws fr to m).fd = (strAt pl ws fr to m).td := by rw [e]; exact ⟨rfl, rfl⟩
      refine ⟨.inl heq, ?_⟩
      rw [atS, if_pos heq]
      exact ⟨hr, hu'⟩
  intro m
  induction m with
  | zero => intro _; exact ⟨Rd.one _, upto_zero _ _ _ _, fun h => (key 0 h (Rd.one _) (upto_zero _ _ _ _)).1⟩
  | succ m ih =>
    intro hm
    obtain ⟨i1, i2, _⟩ := ih (by omega)
    obtain ⟨_, k2, k3⟩ := key m (by omega) i1 i2
    exact ⟨k2, k3, fun h => (key (m + 1) h k2 k3).1⟩
theorem valQ_one (n : Int) : valQ n 1 = n * MM := by unfold valQ; rw [Int.ediv_one]
theorem at_end {pl ws : List Int} (hl : okLine pl = true) {fr to : Int} (h1 : 1 ≤ pl.length) (hft : fr < to) : atS pl ws fr to pl.length = (to, 1) := by
  obtain ⟨h2, h3, _⟩ := at_upto (ws := ws) (fr := fr) (to := to) hl pl.length (Nat.le_refl _)
  have hp := MM_pos
  have := upto_end h1 (by rw [valQ_one, valQ_one]; exact Int.mul_lt_mul_of_pos_right hft hp) h3
  obtain ⟨q1, q2⟩ := Rd.eq h2 (Rd.one to) this
  exact Prod.ext q1 q2
end Go.Proofs.Ytodlbgncdggimaa
