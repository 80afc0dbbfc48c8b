/- TopSoft: the law's walk. -/
import Derived.Test.YtaidoaggmllcfaaT34
import Derived.Test.YtaidoaggmllcfaaLSof
import Derived.Test.YtaidoaggmllcfaaT24
import Derived.Test.YtaidoaggmllcfaaT12
namespace Go.Proofs.Ytaidoaggmllcfaa
open Go.RowKit
attribute [local go_sem] GW.cell guard46 eq_rat ne_rat

abbrev w21 (w : World) (p q : Int) : World := ((w.alloc (.cells #[.int .i64 p] 3)).alloc (.cells #[.int .i64 q] 3)).alloc (.cells #[.slice (some ⟨w.heap.size, 0, none⟩) 1 1, .slice (some ⟨w.heap.size + 1, 0, none⟩) 1 1] 31)
theorem t21 (w : World) (p q : Int) : Table (w21 w p q) (some ⟨w.heap.size + 1 + 1, 0, none⟩) [[p], [q]] := by
  have hE1 := ext_alloc (w.alloc (.cells #[.int .i64 p] 3)) (.cells #[.int .i64 q] 3)
  have hE2 := ext_alloc ((w.alloc (.cells #[.int .i64 p] 3)).alloc (.cells #[.int .i64 q] 3)) (.cells #[.slice (some ⟨w.heap.size, 0, none⟩) 1 1, .slice (some ⟨w.heap.size + 1, 0, none⟩) 1 1] 31)
  have hI0 := ((ints_new1 w p 3 w.heap.size rfl).ext hE1).ext hE2
  have hI1 := (ints_new1 (w.alloc (.cells #[.int .i64 p] 3)) q 3 (w.heap.size + 1) (by simp)).ext hE2
  have hb := BlkC.new ((w.alloc (.cells #[.int .i64 p] 3)).alloc (.cells #[.int .i64 q] 3)) #[.slice (some ⟨w.heap.size, 0, none⟩) 1 1, .slice (some ⟨w.heap.size + 1, 0, none⟩) 1 1] 31
  simp only [World.size_alloc] at hb
  intro j hj
  match j, hj with
  | 0, _ => exact ⟨_, 0, _, 1, rfl, by simp, hb.cellv 0 rfl, hI0⟩
  | 1, _ => exact ⟨_, 0, _, 1, rfl, by simp, hb.cellv 1 rfl, hI1⟩
theorem small21 {p q : Int} : ∀ j, (hj : j < ([[p], [q]] : Tbl).length) → ([[p], [q]] : Tbl)[j].length ≤ 1000000 := fun j hj => by
  match j, hj with
  | 0, _ => simp
  | 1, _ => simp
theorem ks1 : fitColsV [[1], [3]] [2] = [[500], [1500]] := by kernel_rfl
theorem ks2 : errOf (colsOk [[1], [3]] [2]) = 0 := by kernel_rfl
theorem ks24 (w : World) (B : Nat) (hB : B = w.heap.size + 1 + 1 + 1) : Calls Try.prog 24 #[.slice (some ⟨w.heap.size + 1 + 1, 0, none⟩) 2 2, .slice (some ⟨B, 0, none⟩) 1 1] ((w21 w 1 3).alloc (.cells #[.int .i64 2] 3)) (RetTE 31 [[500], [1500]] 0 ((w21 w 1 3).alloc (.cells #[.int .i64 2] 3))) := by
  subst hB
  have h := f24_c _ (some ⟨w.heap.size + 1 + 1 + 1, 0, none⟩) 2 2 1 1 [[1], [3]] [2] _ ((t21 w 1 3).ext (ext_alloc _ (.cells #[.int .i64 2] 3))) rfl (by decide) small21 (ints_new1 (w21 w 1 3) 2 3 _ (by simp)) rfl (by decide)
  rw [ks1, ks2] at h
  exact h
theorem ks19 (w : World) (a : Option Addr) (c : Nat) (p q : Int) (h : Table w a [[p], [q]]) : Calls Try.prog 19 #[.slice a 2 c, .slice (some ⟨w.heap.size + 1 + 1, 0, none⟩) 2 2] (w21 w p q) fun e w' => e = .returned (.bool true) ∧ Ext w w' := by
  have hE := table_ext3 w (.cells #[.int .i64 p] 3) (.cells #[.int .i64 q] 3) (.cells #[.slice (some ⟨w.heap.size, 0, none⟩) 1 1, .slice (some ⟨w.heap.size + 1, 0, none⟩) 1 1] 31)
  have h := f19_c a _ 2 c 2 2 [[p], [q]] [[p], [q]] _ (h.ext hE) (t21 w p q) rfl rfl (by decide) (by decide) small21 small21
  rw [sameT_rfl] at h
  exact h.mono fun e w' ⟨h1, h2⟩ => ⟨h1, hE.trans' h2⟩
theorem soft_whole {x y : List Int} {t : Tbl} {s r : Int} (h : softErr x y t s r = 0) : fitsErr x y t = 0 ∧ WholeT x.length y.length x y (softV x y t s r) := by
  obtain ⟨_, _, _, _, _, _, _, l8⟩ := soft_law h
  have h0 : fitsErr x y t = 0 := by
    unfold softErr at h
    split at h
    · assumption
    · exact h
  obtain ⟨g1, g2, g3, g4, g5, g6⟩ := fitsErr_ok h0
  have hv : softV x y t s r = repV x.length y.length x y (fitN x.length y.length x y (kernelT t s) r.toNat) := by unfold softV; rw [if_pos h]
  obtain ⟨r1, r2⟩ := rep_whole (l8.weak (by omega)) (massB_ok g1).2.2 (massB_ok g2).2.2 rfl rfl g6
  exact ⟨h0, by rw [hv]; exact ⟨(rep_tight (l8.weak (by omega)) (massB_ok g1).2.2 (massB_ok g2).2.2).weak (by omega), r1, r2⟩⟩
theorem sumN_bd3 {f : Nat → Int} {K : Int} : ∀ {n : Nat}, (∀ i, i < n → 0 ≤ f i ∧ f i ≤ K) → 0 ≤ sumN f n ∧ sumN f n ≤ n * K
  | 0, _ => by simp [sumN]
  | n + 1, h => by
    have h1 := sumN_bd3 (n := n) (fun i hi => h i (by omega))
    have h2 := h n (by omega)
    have e : ((n + 1 : Nat) : Int) * K = n * K + K := by rw [show ((n + 1 : Nat) : Int) = (n : Int) + 1 by omega, Int.add_mul, Int.one_mul]
    simp only [sumN]; omega
theorem best_bd {n m : Nat} {c P : Tbl} {a b : List Int} (h : BestT n m c a b P) (hc : TOk n m 0 99 c) (ha : ∀ i, 0 ≤ gi a i ∧ gi a i ≤ 30) : 0 ≤ costT n m (tg c) (tg P) ∧ costT n m (tg c) (tg P) ≤ 100000 := by
  have h1 : ∀ i, i < n → 0 ≤ sumN (fun j => tg c i j * tg P i j) m ∧ sumN (fun j => tg c i j * tg P i j) m ≤ 14850 := fun i hi => by
    have h2 := sumN_bd3 (f := fun j => tg c i j * tg P i j) (K := 2970) (n := m) (fun j hj => by
      have h3 := hc.bd i j hi hj
      have h4 := h.2.1.pos i j hi hj
      have h5 := h.2.1.le hi hj
      have h6 := (ha i).2
      refine ⟨Int.mul_nonneg h3.1 h4, ?_⟩
      have h7 : tg c i j * tg P i j ≤ 99 * tg P i j := Int.mul_le_mul_of_nonneg_right h3.2 h4
      omega)
    have h8 : (m : Int) * 2970 ≤ 5 * 2970 := Int.mul_le_mul_of_nonneg_right (by have := hc.m5; omega) (by omega)
    omega
  have h2 := sumN_bd3 (f := fun i => sumN (fun j => tg c i j * tg P i j) m) (n := n) h1
  have h8 : (n : Int) * 14850 ≤ 5 * 14850 := Int.mul_le_mul_of_nonneg_right (by have := hc.n5; omega) (by omega)
  unfold costT
  omega
theorem rowOk_yes {m : Nat} {lo hi : Int} {l : List Int} (h : l.length = m) (h2 : ∀ j, j < m → lo ≤ gi l j ∧ gi l j ≤ hi) : rowOk m lo hi l = true := by
  rw [rowOk_of h]
  exact okRow_yes fun j hj => withinB_iff.2 (h2 j (by omega))
/-- the prices that are returned hold, and are worth the least -/
theorem prices_err {x y : List Int} {t : Tbl} {U V : List Int} {L : Int} (h0 : fitsErr x y t = 0) (h : PricesOk x y t U V) (hL : ∀ v, LeastP x y t v → v = L) : prcErr t U V = 0 ∧ worV x y t U V = L := by
  obtain ⟨h1, h2, h3, h4, P, h5, h6⟩ := h
  have hF := fits_ok h0
  have htl := hF.T.len
  have htm := hF.T.cols 0 (by have := hF.T.n1; omega)
  have e1 : prB t U V = true := by
    unfold prB
    rw [htl, htm, rowOk_yes h1 h3, rowOk_yes h2 h4]; rfl
  have e2 : feasB t U V = true := feasB_yes fun i j hi hj => decide_eq_true (h6 i j (by omega) (by omega)).1
  have e3 : prcErr t U V = 0 := by
    unfold prcErr
    rw [tabB_of (by rw [htl, htm]; exact hF.T : TOk t.length (row t 0).length 0 99 t), e1, e2]; rfl
  refine ⟨e3, ?_⟩
  unfold worV
  rw [if_pos e3]
  exact hL _ ⟨fun h => absurd h0 h, fun _ => ⟨P, h5, best_worth h5 h6⟩⟩
/-- what is said of the least, the loss and any prices -/
structure SoftSaid (x y : List Int) (t T : Tbl) (L : Int) : Prop where
  least : ∀ v, LeastP x y t v → v = L
  bd : 0 ≤ L ∧ L ≤ 100000
  loss : 0 ≤ spTo t T y.length x.length - L * 1000
  wor : ∀ U V, prcErr t U V = 0 → -300000 ≤ worV x y t U V ∧ worV x y t U V ≤ L
theorem soft_said {x y : List Int} {t T : Tbl} {L : Int} (h0 : fitsErr x y t = 0) (hT : WholeT x.length y.length x y T) (hL : LeastP x y t L) : SoftSaid x y t T L := by
  have hF := fits_ok h0
  obtain ⟨P, hP, rfl⟩ := hL.2 h0
  have htl := hF.T.len
  have htm := hF.T.cols 0 (by have := hF.T.n1; omega)
  refine ⟨fun v hv => ?_, best_bd hP hF.T hF.bx, ?_, fun U V hp => ?_⟩
  · obtain ⟨Q, hQ, rfl⟩ := hv.2 h0
    exact best_same hQ hP
  · obtain ⟨u, v, hp⟩ := hP.2.1.pot
    have h1 := whole_ge hT (fun i j hi hj => (hp i j hi hj).1)
    rw [worth_eq hP.2.2 (fun i j hi hj => (hp i j hi hj).2)] at h1
    rw [spTo_sum]; omega
  · obtain ⟨p1, p2⟩ := prcErr_ok hp
    obtain ⟨⟨q1, q2⟩, q3, q4⟩ := prB_ok p1
    have hw : worV x y t U V = worthT x.length y.length (gi x) (gi y) (gi U) (gi V) := if_pos hp
    rw [hw]
    have b1 := sumMul_bd hF.bx (u := gi U) (n := x.length) (fun i hi => q2 i (by omega)) _ (Nat.le_refl _)
    have b2 := sumMul_bd hF.bY (u := gi V) (n := y.length) (fun i hi => q4 i (by omega)) _ (Nat.le_refl _)
    have n5 := hF.T.n5
    have m5 := hF.T.m5
    refine ⟨by unfold worthT; omega, worth_le hP.2.2 (fun i j hi hj => feasB_at p2 (by omega) (by omega))⟩
theorem frac_le {d e g k N D M E : Int} (h1 : d = g * N) (h2 : 1000 = g * D) (h3 : e = k * M) (h4 : 1000 = k * E) (hg : 1 ≤ g) (hk : 1 ≤ k) (hde : d ≤ e) : N * E ≤ M * D := by
  have h5 : (g * k) * (N * E) ≤ (g * k) * (M * D) := by
    have e1 : (g * k) * (N * E) = (g * N) * (k * E) := by grind
    have e2 : (g * k) * (M * D) = (k * M) * (g * D) := by grind
    rw [e1, e2, ← h1, ← h2, ← h3, ← h4]
    omega
  exact Int.le_of_mul_le_mul_left h5 (Int.mul_pos (by omega) (by omega))
/-- what soft.Bound says of a fraction -/
def BdSaid (x y : List Int) (t : Tbl) (U V : List Int) (SS E N D : Int) : Prop := prcErr t U V = E ∧ (E = 0 → ratN (SS - worV x y t U V * 1000) 1000 = N ∧ ratD (SS - worV x y t U V * 1000) 1000 = D)
structure StepF (SS WV N1 D1 N2 D2 g2 : Int) : Prop where
  d2 : 1 ≤ D2 ∧ D2 ≤ 1000
  g : 1 ≤ g2 ∧ g2 ≤ 1000
  n2 : 0 ≤ N2 ∧ N2 ≤ 700000000
  le : N1 * D2 ≤ N2 * D1
  b1 : 0 ≤ N1 * D2 ∧ N1 * D2 ≤ 1000000000000
  b2 : 0 ≤ N2 * D1 ∧ N2 * D1 ≤ 1000000000000
  b3 : 0 ≤ N2 * g2 ∧ N2 * g2 ≤ 1000000000000
  m1 : (1000 : Int) % D2 = 0
  m2 : Int.tmod 1000 D2 = 0
  q1 : (1000 : Int) / D2 = g2
  q2 : Int.tdiv 1000 D2 = g2
  e : N2 * g2 = SS - WV * 1000
theorem mul_bdI {a b A B : Int} (ha : 0 ≤ a ∧ a ≤ A) (hb : 0 ≤ b ∧ b ≤ B) : 0 ≤ a * b ∧ a * b ≤ A * B :=
  ⟨Int.mul_nonneg ha.1 hb.1, Int.mul_le_mul ha.2 hb.2 hb.1 (by omega)⟩
theorem step_said {x y : List Int} {t : Tbl} {U V : List Int} {SS L N1 D1 g1 N2 D2 : Int} (h : BdSaid x y t U V SS 0 N2 D2) (hS : 0 ≤ SS ∧ SS ≤ 371250000) (_hL : 0 ≤ L ∧ L ≤ 100000) (hl : 0 ≤ SS - L * 1000) (hw : -300000 ≤ worV x y t U V ∧ worV x y t U V ≤ L)
    (he : SS - L * 1000 = g1 * N1 ∧ 1000 = g1 * D1) (hg1 : 1 ≤ g1) (hD : 1 ≤ D1 ∧ D1 ≤ 1000) (hN : 0 ≤ N1 ∧ N1 ≤ 371250000) : ∃ g2, StepF SS (worV x y t U V) N1 D1 N2 D2 g2 := by
  obtain ⟨-, h2⟩ := h
  obtain ⟨f1, f2⟩ := h2 rfl
  obtain ⟨g2, N3, D3, k1, k2, k3, k4, hg2, hD2, hD2b, hN2, hN2b, -⟩ := frac_facts (d := SS - worV x y t U V * 1000) (by omega)
  rw [f1] at k1
  rw [f2] at k2
  subst k1 k2
  have hg2b : g2 ≤ 1000 := by
    have h3 : g2 * 1 ≤ g2 * D2 := Int.mul_le_mul_of_nonneg_left hD2 (by omega)
    omega
  have hb1 := mul_bdI (a := N1) (b := D2) (A := 371250000) (B := 1000) hN ⟨by omega, hD2b⟩
  have hb2 := mul_bdI (a := N2) (b := D1) (A := 700000000) (B := 1000) ⟨hN2, by omega⟩ ⟨by omega, hD.2⟩
  have hb3 := mul_bdI (a := N2) (b := g2) (A := 700000000) (B := 1000) ⟨hN2, by omega⟩ ⟨by omega, hg2b⟩
  exact ⟨g2, ⟨hD2, hD2b⟩, ⟨hg2, hg2b⟩, ⟨hN2, by omega⟩, frac_le he.1 he.2 k3 k4 hg1 hg2 (by omega), ⟨hb1.1, by omega⟩, ⟨hb2.1, by omega⟩, ⟨hb3.1, by omega⟩, by rw [k4]; exact Int.mul_emod_left _ _, by rw [k4]; exact Int.mul_tmod_left _ _, by rw [k4]; exact Int.mul_ediv_cancel _ (by omega), by rw [k4]; exact Int.mul_tdiv_cancel _ (by omega), by rw [k3, Int.mul_comm]⟩
theorem frac_zero : ratN 0 1000 = 0 ∧ ratD 0 1000 = 1 := by decide +kernel
/-- a plan told in grains is whole, and costs a thousand times as much -/
theorem grains_whole {x y : List Int} {t P G : Tbl} (hF : FitsOk x.length y.length x y t) (hP : BestT x.length y.length t x y P) (hG : G = mk x.length y.length fun i j => tg P i j * 1000) :
    WholeT x.length y.length x y G ∧ spTo t G y.length x.length = costT x.length y.length (tg t) (tg P) * 1000 := by
  have htg : ∀ i j, i < x.length → j < y.length → tg G i j = tg P i j * 1000 := fun i j hi hj => by rw [hG, tg_mk _ hi hj]
  have hok : TOk x.length y.length 0 150000 G := ⟨hF.T.n1, hF.T.n5, hF.T.m1, hF.T.m5, by rw [hG, mk_len], fun i hi => by rw [hG, mk_cols _ hi], fun i j hi hj => by
    rw [htg i j hi hj]
    have h1 := hP.2.1.pos i j hi hj
    have h2 := hP.2.1.le hi hj
    have h3 := hF.bx i
    omega⟩
  refine ⟨WholeT.of hok ⟨fun i j hi hj => (hok.bd i j hi hj).1, fun i hi => ?_, fun j hj => ?_⟩, ?_⟩
  · rw [sumN_congr (g := fun j => tg P i j * 1000) (fun j hj => htg i j hi hj), sumN_dist, show sumN (fun j => tg P i j) y.length = gi x i from hP.2.2.rows i hi]
  · rw [sumN_congr (g := fun i => tg P i j * 1000) (fun i hi => htg i j hi hj), sumN_dist, hP.2.2.cols j hj]
  · rw [spTo_sum]
    unfold costT
    rw [← sumN_dist]
    refine sumN_congr fun i hi => ?_
    rw [← sumN_dist]
    exact sumN_congr fun j hj => by rw [htg i j hi hj, Int.mul_assoc]
set_option maxRecDepth 20000 in
set_option maxHeartbeats 32000000 in
theorem softs_top (w : World) (ax : Option Addr) (na ca : Nat) (x : List Int) (hx : Ints w ax x) (hxn : x.length = na) (bx : Option Addr) (nb cb : Nat) (y : List Int) (hy : Ints w bx y) (hyn : y.length = nb)
    (a : Option Addr) (len cap : Nat) (t : Tbl) (hl : Table w a t) (hn : t.length = len) (hlen : len ≤ 9223372036854775807)
    (tb : Option Addr) (lent capt : Nat) (tt : Tbl) (_hlt : Table w tb tt) (_hnt : tt.length = lent) (_hlent : lent ≤ 9223372036854775807) (s r : Int)
    (ua : Option Addr) (nu cu : Nat) (U : List Int) (hU : Ints w ua U) (hun : U.length = nu) (va : Option Addr) (nv cv : Nat) (V : List Int) (hV : Ints w va V) (hvn : V.length = nv) :
    Calls Try.prog 7 #[.agg #[.slice ax na ca, .slice bx nb cb, .slice a len cap], .agg #[.slice tb lent capt, .int .i64 s, .int .i64 r], .agg #[.slice ua nu cu, .slice va nv cv]] w fun e w' => e = .returned (.bool true) ∧ Below w.heap.size w w' := by
  have hEa := ext_alloc w (.cells #[.slice ax na ca, .slice bx nb cb, .slice a len cap] 51)
  have hEb := ext_alloc (w.alloc (.cells #[.slice ax na ca, .slice bx nb cb, .slice a len cap] 51)) (.cells #[.slice tb lent capt, .int .i64 s, .int .i64 r] 53)
  have hEc := ext_alloc ((w.alloc (.cells #[.slice ax na ca, .slice bx nb cb, .slice a len cap] 51)).alloc (.cells #[.slice tb lent capt, .int .i64 s, .int .i64 r] 53)) (.cells #[.slice ua nu cu, .slice va nv cv] 55)
  have hE0 := (hEa.trans' hEb).trans' hEc
  have HA := Lib.hid (((BlkC.new w #[.slice ax na ca, .slice bx nb cb, .slice a len cap] 51).ext hEb).ext hEc)
  have HB := (BlkC.new (w.alloc (.cells #[.slice ax na ca, .slice bx nb cb, .slice a len cap] 51)) #[.slice tb lent capt, .int .i64 s, .int .i64 r] 53).ext hEc
  have HC := BlkC.new ((w.alloc (.cells #[.slice ax na ca, .slice bx nb cb, .slice a len cap] 51)).alloc (.cells #[.slice tb lent capt, .int .i64 s, .int .i64 r] 53)) #[.slice ua nu cu, .slice va nv cv] 55
  simp only [World.size_alloc] at HB HC
  have HB := Lib.hid HB
  have HC := Lib.hid HC
  clear hEa hEb hEc
  have C32 := Lib.hid (fun W (h : Ext w W) => f32_c ax bx a na ca nb cb len cap t W (hl.ext h) hn hlen)
  have Hhx := Lib.hid (And.intro hxn hyn)
  have Hhn := Lib.hid (And.intro hn (And.intro hun hvn))
  clear hxn hyn hn hun hvn _hlt _hnt _hlent
  go_enter Try.func7, Try.ntmps7
  go_upto_region 1 with fail
  generalize ((w.alloc (.cells #[.slice ax na ca, .slice bx nb cb, .slice a len cap] 51)).alloc (.cells #[.slice tb lent capt, .int .i64 s, .int .i64 r] 53)).alloc (.cells #[.slice ua nu cu, .slice va nv cv] 55) = w0 at *
  go_wp2_with fail
  refine (ks24 w0 _ (by simp)).mono ?_
  rintro e w1 hR
  obtain ⟨a1, c1, rfl, hT1, hE1⟩ := hR.open_
  have hX1 := ((table_ext3 _ _ _ _).trans' (ext_alloc _ _)).trans' hE1
  have hl2 : ([[500], [1500]] : Tbl).length = 2 := rfl
  rw [hl2]
  have hT1 := Lib.hid hT1
  clear hl2 hR hE1
  go_wp2_with fail
  refine (ks19 w1 _ _ _ _ hT1.out).mono ?_
  rintro e w2 ⟨rfl, hY⟩
  have hX2 := hX1.trans' hY
  have hE2 := hE0.trans' hX2
  clear hY hX1 hT1
  have ka0 := (HA.out.ext hX2).cellv 0 (v := .slice ax na ca) rfl
  have ka1 := (HA.out.ext hX2).cellv 1 (v := .slice bx nb cb) rfl
  have ka2 := (HA.out.ext hX2).cellv 2 (v := .slice a len cap) rfl
  have lt1 := (HA.out.ext hX2).lt
  have kc0 := (HC.out.ext hX2).cellv 0 (v := .slice ua nu cu) rfl
  have kc1 := (HC.out.ext hX2).cellv 1 (v := .slice va nv cv) rfl
  have lt3 := (HC.out.ext hX2).lt
  cases hw : longB na nb t
  case true =>
    have C32 := C32.out w2 hE2
    rw [hw] at C32
    have C32 := Lib.hid C32
    clear hw
    go_wp2_with fail
    refine C32.out.mono ?_
    rintro e w3 ⟨rfl, hY⟩
    go_wp2_with fail
    go_ret
    exact ⟨rfl, hE2.trans' hY⟩
  have C32 := C32.out w2 hE2
  rw [hw] at C32
  have C32 := Lib.hid C32
  simp only [longB, Bool.or_eq_false_iff, decide_eq_false_iff_not] at hw
  obtain ⟨hna, hnb, hw1⟩ := hw
  obtain ⟨h1, hin⟩ := wide_in hw1
  clear hw1
  by_cases hu50 : 50 < nu
  case pos =>
    have d1 : decide (50 < (nu : Int)) = true := by simp; omega
    have d1' : decide (50 < nu) = true := by simp; omega
    clear hu50
    go_wp2_with fail
    refine C32.out.mono ?_
    rintro e w3 ⟨rfl, hY⟩
    have hX3 := hX2.trans' hY
    have ka0 := (HA.out.ext hX3).cellv 0 (v := .slice ax na ca) rfl
    have ka1 := (HA.out.ext hX3).cellv 1 (v := .slice bx nb cb) rfl
    have ka2 := (HA.out.ext hX3).cellv 2 (v := .slice a len cap) rfl
    have lt1 := (HA.out.ext hX3).lt
    have kc0 := (HC.out.ext hX3).cellv 0 (v := .slice ua nu cu) rfl
    have kc1 := (HC.out.ext hX3).cellv 1 (v := .slice va nv cv) rfl
    have lt3 := (HC.out.ext hX3).lt
    go_wp2_with fail
    go_ret
    exact ⟨rfl, hE2.trans' hY⟩
  have d1 : decide (50 < (nu : Int)) = false := by simp; omega
  by_cases hv50 : 50 < nv
  case pos =>
    have d2 : decide (50 < (nv : Int)) = true := by simp; omega
    clear hv50
    go_wp2_with fail
    refine C32.out.mono ?_
    rintro e w3 ⟨rfl, hY⟩
    have hX3 := hX2.trans' hY
    have ka0 := (HA.out.ext hX3).cellv 0 (v := .slice ax na ca) rfl
    have ka1 := (HA.out.ext hX3).cellv 1 (v := .slice bx nb cb) rfl
    have ka2 := (HA.out.ext hX3).cellv 2 (v := .slice a len cap) rfl
    have lt1 := (HA.out.ext hX3).lt
    have kc0 := (HC.out.ext hX3).cellv 0 (v := .slice ua nu cu) rfl
    have kc1 := (HC.out.ext hX3).cellv 1 (v := .slice va nv cv) rfl
    have lt3 := (HC.out.ext hX3).lt
    go_wp2_with fail
    go_ret
    exact ⟨rfl, hE2.trans' hY⟩
  have d2 : decide (50 < (nv : Int)) = false := by simp; omega
  go_wp2_with fail
  refine C32.out.mono ?_
  rintro e w3 ⟨rfl, hY⟩
  have hX3 := hX2.trans' hY
  have hE3 := hE0.trans' hX3
  clear C32 hY hX2 hE2 ka0 ka1 ka2 lt1 kc0 kc1 lt3
  have ka0 := (HA.out.ext hX3).cellv 0 (v := .slice ax na ca) rfl
  have ka1 := (HA.out.ext hX3).cellv 1 (v := .slice bx nb cb) rfl
  have ka2 := (HA.out.ext hX3).cellv 2 (v := .slice a len cap) rfl
  have lt1 := (HA.out.ext hX3).lt
  have kb1 := (HB.out.ext hX3).cellv 1 (v := .int .i64 s) rfl
  have kb2 := (HB.out.ext hX3).cellv 2 (v := .int .i64 r) rfl
  have lt2 := (HB.out.ext hX3).lt
  have kc0 := (HC.out.ext hX3).cellv 0 (v := .slice ua nu cu) rfl
  have kc1 := (HC.out.ext hX3).cellv 1 (v := .slice va nv cv) rfl
  have lt3 := (HC.out.ext hX3).lt
  have hlen2 : len ≤ 1000000 := by have := Hhn.out.1; omega
  have C33 := fun W (h : Ext w W) => f33_c ax bx a na nb len cap ca cb x y t s r W (hx.ext h) Hhx.out.1 (by omega) (hy.ext h) Hhx.out.2 (by omega) (hl.ext h) Hhn.out.1 hlen2 hin
  by_cases he : softErr x y t s r = 0
  case neg =>
    have de : (softErr x y t s r != 0) = true := by simp [he]
    have hv : softV x y t s r = [] := by unfold softV; rw [if_neg he]
    rw [hv] at C33
    have C33 := Lib.hid C33
    clear he hv hna hnb h1 hin hx hy hl hU hV
    generalize softErr x y t s r = E at *
    go_wp2_with fail
    refine (C33.out w3 hE3).mono ?_
    rintro e w4 hR
    obtain ⟨a4, c4, rfl, _, hY⟩ := hR.open_
    have hl0 : ([] : Tbl).length = 0 := rfl
    rw [hl0]
    clear hR hl0
    go_wp2_with fail
    go_ret
    exact ⟨rfl, hE3.trans' hY⟩
  obtain ⟨h0, hTT⟩ := soft_whole he
  have hF := fits_ok h0
  have hTl := hTT.ok.len
  have hTn5 := hTT.ok.n5
  obtain ⟨hxn, hyn⟩ := Hhx.out
  obtain ⟨hn, hun, hvn⟩ := Hhn.out
  clear Hhx Hhn
  subst hxn hyn hun hvn
  have htl := hF.T.len
  obtain rfl : len = x.length := by omega
  rw [he] at C33
  have C33 := Lib.hid C33
  have H0 := Lib.hid h0
  have HF := Lib.hid hF
  have HT := Lib.hid hTT
  have HX := Lib.hid hx
  have HY := Lib.hid hy
  have HLt := Lib.hid hl
  have HU := Lib.hid hU
  have HV := Lib.hid hV
  have Hn := Lib.hid hn
  have Hin := Lib.hid hin
  clear he h0 hF hTT hx hy hl hU hV hn htl hin hlen2 hlen
  generalize softV x y t s r = T at *
  go_wp2_with fail
  refine (C33.out w3 hE3).mono ?_
  rintro e w4 hR
  obtain ⟨aT, cT, rfl, hT4, hY⟩ := hR.open_
  have hX4 := hX3.trans' hY
  have hE4 := hE0.trans' hX4
  have HTl := Lib.hid hTl
  have HT4 := Lib.hid hT4
  rw [hTl]
  clear hR hY hTl hT4 C33 hX3 hE3 hna hnb h1 ka0 ka1 ka2 lt1 kb1 kb2 lt2 kc0 kc1 lt3
  have ka0 := (HA.out.ext hX4).cellv 0 (v := .slice ax x.length ca) rfl
  have ka1 := (HA.out.ext hX4).cellv 1 (v := .slice bx y.length cb) rfl
  have ka2 := (HA.out.ext hX4).cellv 2 (v := .slice a x.length cap) rfl
  have lt1 := (HA.out.ext hX4).lt
  go_wp2_with fail
  refine (f34_c ax bx a x.length y.length x.length cap ca cb x y t w4 (HX.out.ext hE4) rfl (by have := HF.out.T.n5; omega) (HY.out.ext hE4) rfl (by have := HF.out.T.m5; omega) (HLt.out.ext hE4) Hn.out (by have := HF.out.T.n5; omega) Hin.out).mono ?_
  rintro e w5 ⟨L, rfl, hL, hY⟩
  have hX5 := hX4.trans' hY
  have hE5 := hE0.trans' hX5
  have HT5 := Lib.hid (HT4.out.ext hY)
  have HS := Lib.hid (soft_said H0.out HT.out hL)
  rw [H0.out]
  clear hY hX4 hE4 hL HT4 ka0 ka1 ka2 lt1
  have ka0 := (HA.out.ext hX5).cellv 0 (v := .slice ax x.length ca) rfl
  have ka1 := (HA.out.ext hX5).cellv 1 (v := .slice bx y.length cb) rfl
  have ka2 := (HA.out.ext hX5).cellv 2 (v := .slice a x.length cap) rfl
  have lt1 := (HA.out.ext hX5).lt
  have htl := HF.out.T.len
  have htm := HF.out.T.cols 0 (by have := HF.out.T.n1; omega)
  have hcb : costB t T = true := costB_yes (tabB_of (by rw [htl, htm]; exact HF.out.T : TOk t.length (row t 0).length 0 99 t)) (by rw [htl, htm]; exact sized_of HT.out.ok)
  have C35 := f35_c a aT x.length x.length cap cT t T w5 (HLt.out.ext hE5) Hn.out (by have := HF.out.T.n5; omega) Hin.out HT5.out HT.out.ok.len (by have := HF.out.T.n5; omega) (fun j hj => by have h1 := HT.out.ok.cols j (by have := HT.out.ok.len; omega); rw [row_at hj] at h1; have := HF.out.T.m5; omega)
  rw [hcb, costV_ok hcb, htl, htm, show errOf true = 0 from rfl] at C35
  have C35 := Lib.hid C35
  clear htl htm hcb
  have C36 := Lib.hid (fun W q d T (h : Ext w W) (hq : Table W q T) (hT : WholeT x.length y.length x y T) hd => f36_c ax bx a q ca cb cap d x y t T L W (HX.out.ext h) (HY.out.ext h) (HLt.out.ext h) H0.out hq hT HS.out.least (by have := HS.out.bd; omega) hd)
  have C37 := Lib.hid (fun W (h : Ext w W) (hq : Table W aT T) => f37_c ax bx a aT ca cb cap cT x y t T W (HX.out.ext h) (HY.out.ext h) (HLt.out.ext h) H0.out hq HT.out)
  have C39 := Lib.hid (fun W ua un uc va vn vc U V (h : Ext w W) (hq : Table W aT T) hU hun hul hV hvn hvl hb => f39_c ax bx a aT ua va ca cb cap cT un uc vn vc x y t T U V W (HX.out.ext h) (HY.out.ext h) (HLt.out.ext h) H0.out hq HT.out hU hun hul hV hvn hvl hb)
  have C40 := Lib.hid (fun W (h : Ext w W) => f40_c ax bx a ua va x.length cap ca cb U.length cu V.length cv x y t U V W (HX.out.ext h) (HY.out.ext h) (HLt.out.ext h) Hn.out H0.out (HU.out.ext h) rfl (by omega) (HV.out.ext h) rfl (by omega))
  have hLb := HS.out.bd
  have hloss := HS.out.loss
  have hSb := spTo_bd HF.out.T HT.out.ok x.length (Nat.le_refl _)
  have hSb2 : spTo t T y.length x.length ≤ 371250000 := by have := HF.out.T.n5; omega
  clear hSb
  obtain ⟨g1, N1, D1, e1, e2, e3, e4, hg1, hD1, hD1b, hN1, hN1b, hgcd⟩ := frac_facts hloss
  have He := Lib.hid (And.intro e3 e4)
  have Hgcd := Lib.hid hgcd
  have E1 := Lib.hid (And.intro e1 e2)
  clear e1 e2 e3 e4 hgcd
  generalize hSS : spTo t T y.length x.length = SS at *
  have HSS := Lib.hid hSS
  clear hSS
  go_wp2_with fail
  refine C35.out.mono ?_
  rintro e w6 ⟨rfl, hY⟩
  have hX6 := hX5.trans' hY
  have hE6 := hE0.trans' hX6
  have HT6 := Lib.hid (HT5.out.ext hY)
  clear C35 hY hX5 hE5 HT5 ka0 ka1 ka2 lt1
  have ka0 := (HA.out.ext hX6).cellv 0 (v := .slice ax x.length ca) rfl
  have ka1 := (HA.out.ext hX6).cellv 1 (v := .slice bx y.length cb) rfl
  have ka2 := (HA.out.ext hX6).cellv 2 (v := .slice a x.length cap) rfl
  have lt1 := (HA.out.ext hX6).lt
  have C36a := C36.out w6 aT cT T hE6 HT6.out HT.out (by rw [HSS.out]; exact hloss)
  rw [HSS.out] at C36a
  unfold RetFr fracV at C36a
  rw [E1.out.1, E1.out.2] at C36a
  have C36a := Lib.hid C36a
  go_wp2_with fail
  refine C36a.out.mono ?_
  rintro e w7 ⟨rfl, hY⟩
  have hX7 := (hX6.trans' hY).trans' (ext_alloc w7 (.cells #[.int .i64 N1, .int .i64 D1] 46))
  have hE7 := hE0.trans' hX7
  have HT7 := Lib.hid ((HT6.out.ext hY).ext (ext_alloc w7 (.cells #[.int .i64 N1, .int .i64 D1] 46)))
  have HLo := Lib.hid (BlkC.new w7 #[.int .i64 N1, .int .i64 D1] 46)
  clear C36a hY hX6 hE6 HT6 ka0 ka1 ka2 lt1
  have ka0 := (HA.out.ext hX7).cellv 0 (v := .slice ax x.length ca) rfl
  have ka1 := (HA.out.ext hX7).cellv 1 (v := .slice bx y.length cb) rfl
  have ka2 := (HA.out.ext hX7).cellv 2 (v := .slice a x.length cap) rfl
  have lt1 := (HA.out.ext hX7).lt
  go_wp2_with fail
  generalize w7.heap.size = bl at *
  generalize w7.alloc (.cells #[.int .i64 N1, .int .i64 D1] 46) = w7a at *
  refine (C37.out w7a hE7 HT7.out).mono ?_
  rintro e w8 ⟨gA, cA, gB, cB, U1, V1, rfl, hgA, hgB, hU1, hV1, hP1, hY⟩
  obtain ⟨p1, p2⟩ := prices_err H0.out hP1 HS.out.least
  have HP1 := Lib.hid (And.intro p1 p2)
  have HUl := Lib.hid hP1.1
  have HVl := Lib.hid hP1.2.1
  have hXp := ext_alloc w8 (.cells #[.slice (some ⟨gA, 0, none⟩) x.length cA, .slice (some ⟨gB, 0, none⟩) y.length cB] 55)
  have hX78 := hY.trans' hXp
  have hX8 := hX7.trans' hX78
  have hE8 := hE0.trans' hX8
  have HT8 := Lib.hid (HT7.out.ext hX78)
  have HU1 := Lib.hid (hU1.ext hXp)
  have HV1 := Lib.hid (hV1.ext hXp)
  have HPr := Lib.hid (BlkC.new w8 #[.slice (some ⟨gA, 0, none⟩) x.length cA, .slice (some ⟨gB, 0, none⟩) y.length cB] 55)
  have HLo8 := Lib.hid (HLo.out.ext hX78)
  clear p1 p2 hP1 hXp hX78 hX7 hE7 HT7 hY hU1 hV1 HLo hgA hgB ka0 ka1 ka2 lt1 C37
  have l0 := HLo8.out.cellv 0 (v := .int .i64 N1) rfl
  have l1 := HLo8.out.cellv 1 (v := .int .i64 D1) rfl
  have ltl := HLo8.out.lt
  go_wp2_with fail
  generalize w8.heap.size = bp at *
  generalize w8.alloc (.cells #[.slice (some ⟨gA, 0, none⟩) x.length cA, .slice (some ⟨gB, 0, none⟩) y.length cB] 55) = w8a at *
  have dA : decide (SS < L * 1000) = false := decide_eq_false (by omega)
  have dB : decide (D1 < 1) = false := decide_eq_false (by omega)
  have hD0 : D1 ≠ 0 := by omega
  have hm1 : (1000 : Int) % D1 = 0 := by rw [He.out.2]; exact Int.mul_emod_left _ _
  have hm2 : Int.tmod 1000 D1 = 0 := by rw [He.out.2]; exact Int.mul_tmod_left _ _
  have hq1 : (1000 : Int) / D1 = g1 := by rw [He.out.2]; exact Int.mul_ediv_cancel _ hD0
  have hq2 : Int.tdiv 1000 D1 = g1 := by rw [He.out.2]; exact Int.mul_tdiv_cancel _ hD0
  have hNg : N1 * g1 = SS - L * 1000 := by rw [He.out.1, Int.mul_comm]
  have hNb : 0 ≤ N1 * g1 ∧ N1 * g1 ≤ 371250000 := by omega
  have hg1b : g1 ≤ 1000 := by
    have h2 := He.out.2
    have h3 : g1 * 1 ≤ g1 * D1 := Int.mul_le_mul_of_nonneg_left hD1 (by omega)
    omega
  have dC : (N1 * g1 != SS - L * 1000) = false := by rw [hNg]; simp
  clear hNg
  refine wp_region_ext (by kernel_rfl) (by kernel_rfl) ?_
  repeat (go_big_quiet_step (fail))
  refine wpQuiet_nil ?_
  intro w9 hX9
  have hX9 := hX8.trans' hX9
  have hE9 := hE0.trans' hX9
  have hX89 : Ext w8a w9 := by assumption
  have HT9 := Lib.hid (HT8.out.ext hX89)
  have HU9 := Lib.hid (HU1.out.ext hX89)
  have HV9 := Lib.hid (HV1.out.ext hX89)
  have HPr9 := Lib.hid (HPr.out.ext hX89)
  have HLo9 := Lib.hid (HLo8.out.ext hX89)
  clear hX89 hX8 hE8 HT8 HU1 HV1 HPr HLo8 l0 l1 ltl dA dB dC hm1 hm2 hq1 hq2 hNb
  have l0 := HLo9.out.cellv 0 (v := .int .i64 N1) rfl
  have l1 := HLo9.out.cellv 1 (v := .int .i64 D1) rfl
  have ltl := HLo9.out.lt
  have r0 := HPr9.out.cellv 0 (v := .slice (some ⟨gA, 0, none⟩) x.length cA) rfl
  have r1 := HPr9.out.cellv 1 (v := .slice (some ⟨gB, 0, none⟩) y.length cB) rfl
  have ltr := HPr9.out.lt
  have ka0 := (HA.out.ext hX9).cellv 0 (v := .slice ax x.length ca) rfl
  have ka1 := (HA.out.ext hX9).cellv 1 (v := .slice bx y.length cb) rfl
  have ka2 := (HA.out.ext hX9).cellv 2 (v := .slice a x.length cap) rfl
  have lt1 := (HA.out.ext hX9).lt
  have C38 := f38_c ax bx a aT (some ⟨gA, 0, none⟩) (some ⟨gB, 0, none⟩) ca cb cap cT x.length y.length x.length cA y.length cB N1 D1 w9 (by
      show (withinB D1 1 1000000 && (withinB N1 0 1000000000000 && (gcdI N1 D1 == 1))) = true
      rw [withinB_iff.2 (by omega), withinB_iff.2 (by omega), Hgcd.out]; rfl) (by
      have h1 := He.out.1
      have h2 := He.out.2
      have h3 : g1 * N1 ≤ g1 * (1000000 * D1) := by
        have e : g1 * (1000000 * D1) = 1000000 * (g1 * D1) := by grind
        rw [e, ← h1, ← h2]; omega
      exact Int.le_of_mul_le_mul_left h3 (by omega)) (by omega) (by omega) (fun W hW => by
      have h1 := C39.out W (some ⟨gA, 0, none⟩) x.length cA (some ⟨gB, 0, none⟩) y.length cB U1 V1 (hE9.trans' hW) (HT9.out.ext hW) (HU9.out.ext hW) HUl.out (by have := HF.out.T.n5; omega) (HV9.out.ext hW) HVl.out (by have := HF.out.T.m5; omega) (fun _ => by rw [HP1.out.2]; omega)
      refine h1.mono ?_
      rintro e w' ⟨h2 | h2, hE⟩
      · exact absurd HP1.out.1 h2.1
      · refine ⟨?_, hE⟩
        rw [h2.2, HP1.out.2, HSS.out]
        unfold fracV
        rw [E1.out.1, E1.out.2])
  have C38 := Lib.hid C38
  go_wp2_with fail
  refine C38.out.mono ?_
  rintro e w10 ⟨rfl, hY⟩
  have hX10 := hX9.trans' hY
  have hE10 := hE0.trans' hX10
  have HT10 := Lib.hid (HT9.out.ext hY)
  have HLo10 := Lib.hid (HLo9.out.ext hY)
  clear C38 hY hX9 hE9 HT9 HU9 HV9 HPr9 HLo9 HP1 HUl HVl r0 r1 ltr l0 l1 ltl ka0 ka1 ka2 lt1
  have ka0 := (HA.out.ext hX10).cellv 0 (v := .slice ax x.length ca) rfl
  have ka1 := (HA.out.ext hX10).cellv 1 (v := .slice bx y.length cb) rfl
  have ka2 := (HA.out.ext hX10).cellv 2 (v := .slice a x.length cap) rfl
  have lt1 := (HA.out.ext hX10).lt
  have kc0 := (HC.out.ext hX10).cellv 0 (v := .slice ua U.length cu) rfl
  have kc1 := (HC.out.ext hX10).cellv 1 (v := .slice va V.length cv) rfl
  have lt3 := (HC.out.ext hX10).lt
  have C39b := C39.out w10 ua U.length cu va V.length cv U V hE10 HT10.out (HU.out.ext hE10) rfl (by omega) (HV.out.ext hE10) rfl (by omega) (fun hp => by
    have := HS.out.wor U V hp
    refine ⟨by omega, by omega⟩)
  have Hwor := Lib.hid (HS.out.wor U V)
  have C39b := Lib.hid C39b
  go_upto_region 17 with fail
  go_cut [19, 20] from 174 to 185 (fun v19 v20 wx => ∃ (b2 : Nat) (N2 D2 E : Int), v19 = .pointer (some ⟨b2, 0, none⟩) ∧ v20 = .int .i64 E ∧ Hid (BlkC wx b2 #[.int .i64 N2, .int .i64 D2] 46) ∧ BdSaid x y t U V SS E N2 D2 ∧ Ext w10 wx)
  case first =>
    go_wp2_with fail
    refine C39b.out.mono ?_
    rintro e w11 ⟨⟨hp, rfl⟩ | ⟨hp, rfl⟩, hY⟩
    · have HE : BdSaid x y t U V SS (prcErr t U V) 0 0 := ⟨rfl, fun h => absurd h hp⟩
      have HBx := Lib.hid (BlkC.new w11 #[.int .i64 0, .int .i64 0] 46)
      have hZ := hY.trans' (ext_alloc w11 (.cells #[.int .i64 0, .int .i64 0] 46))
      clear hp C39b
      generalize prcErr t U V = E at *
      go_wp2_with fail
      go_meet
      case rel => exact ⟨_, 0, 0, E, rfl, rfl, HBx, HE, hZ⟩
    · rw [HSS.out]
      have HE : BdSaid x y t U V SS 0 (ratN (SS - worV x y t U V * 1000) 1000) (ratD (SS - worV x y t U V * 1000) 1000) := ⟨hp, fun _ => ⟨rfl, rfl⟩⟩
      clear hp C39b
      unfold fracV
      generalize ratN (SS - worV x y t U V * 1000) 1000 = N2 at *
      generalize ratD (SS - worV x y t U V * 1000) 1000 = D2 at *
      have HBx := Lib.hid (BlkC.new w11 #[.int .i64 N2, .int .i64 D2] 46)
      have hZ := hY.trans' (ext_alloc w11 (.cells #[.int .i64 N2, .int .i64 D2] 46))
      go_wp2_with fail
      go_meet
      case rel => exact ⟨_, N2, D2, 0, rfl, rfl, HBx, HE, hZ⟩
  case rest =>
    obtain ⟨b2, N2, D2, E, rfl, rfl, HBx, HE, hZ⟩ := hcut
    have hX11 := hX10.trans' hZ
    obtain ⟨w11, rfl⟩ : ∃ w11 : World, w11 = wc := ⟨_, rfl⟩
    have HLo11 := Lib.hid (HLo10.out.ext hZ)
    clear C39b hZ hX10 hE10 HT10 HLo10 ka0 ka1 ka2 lt1 kc0 kc1 lt3 C39
    go_upto_if 187 with fail
    go_cut [] from 188 to 240 (fun wx => Ext w0 wx)
    case first =>
      by_cases hE : E = 0
      case neg =>
        have d0 : (E == 0) = false := by simp [hE]
        clear hE
        go_wp2_with fail
        go_meet
        case rel => exact hX11
      subst hE
      have hp : prcErr t U V = 0 := HE.1
      have hE11 := hE0.trans' hX11
      have C40b := C40.out w11 hE11
      rw [hp] at C40b
      unfold RetIE2 at C40b
      have C40b := Lib.hid C40b
      obtain ⟨g2, hst⟩ := step_said HE ⟨by omega, hSb2⟩ hLb hloss (Hwor.out hp) He.out hg1 ⟨hD1, hD1b⟩ ⟨hN1, by omega⟩
      have hwb := Hwor.out hp
      clear hp HE
      generalize worV x y t U V = WV at *
      have HSt := Lib.hid hst
      have dA : decide (D2 < 1) = false := decide_eq_false (by have := hst.d2; omega)
      have dB : decide (N2 * D1 < N1 * D2) = false := decide_eq_false (by have := hst.le; omega)
      have b1 := hst.b1
      have b2' := hst.b2
      clear hst
      have l0 := (HLo11.out).cellv 0 (v := .int .i64 N1) rfl
      have l1 := (HLo11.out).cellv 1 (v := .int .i64 D1) rfl
      have ltl := (HLo11.out).lt
      have m0 := (HBx.out).cellv 0 (v := .int .i64 N2) rfl
      have m1 := (HBx.out).cellv 1 (v := .int .i64 D2) rfl
      have ltm := (HBx.out).lt
      have ka0 := (HA.out.ext hX11).cellv 0 (v := .slice ax x.length ca) rfl
      have ka1 := (HA.out.ext hX11).cellv 1 (v := .slice bx y.length cb) rfl
      have ka2 := (HA.out.ext hX11).cellv 2 (v := .slice a x.length cap) rfl
      have lt1 := (HA.out.ext hX11).lt
      have kc0 := (HC.out.ext hX11).cellv 0 (v := .slice ua U.length cu) rfl
      have kc1 := (HC.out.ext hX11).cellv 1 (v := .slice va V.length cv) rfl
      have lt3 := (HC.out.ext hX11).lt
      go_wp2_with fail
      refine C40b.out.mono ?_
      rintro e w12 ⟨rfl, hY⟩
      have hX12 := hX11.trans' hY
      have HLo12 := Lib.hid (HLo11.out.ext hY)
      have HBx12 := Lib.hid (HBx.out.ext hY)
      clear C40b hY dA dB b1 b2' l0 l1 ltl m0 m1 ltm ka0 ka1 ka2 lt1 kc0 kc1 lt3 hX11 hE11 HLo11 HBx
      have m0 := (HBx12.out).cellv 0 (v := .int .i64 N2) rfl
      have m1 := (HBx12.out).cellv 1 (v := .int .i64 D2) rfl
      have ltm := (HBx12.out).lt
      have dA : decide (0 < D2) = true := decide_eq_true (by have := HSt.out.d2; omega)
      have hD20 : D2 ≠ 0 := by have := HSt.out.d2; omega
      have q1 := HSt.out.m1
      have q2 := HSt.out.m2
      have q3 := HSt.out.q1
      have q4 := HSt.out.q2
      have b3 := HSt.out.b3
      have hg2 := HSt.out.g
      have dC : (N2 * g2 != SS - WV * 1000) = false := by rw [HSt.out.e]; simp
      go_wp2_with fail
      refine wp_region_ext (by kernel_rfl) (by kernel_rfl) ?_
      repeat (go_big_quiet_step (fail))
      refine wpQuiet_nil ?_
      intro w13 hX13
      go_wp2_with fail
      go_meet
      case rel => exact hX12.trans' hX13
    case rest =>
      have hX13 := hcut
      obtain ⟨w13, rfl⟩ : ∃ w13 : World, w13 = wc := ⟨_, rfl⟩
      have hE13 := hE0.trans' hX13
      clear hcut HE HBx HLo11 hX11 C40 Hwor
      have ka0 := (HA.out.ext hX13).cellv 0 (v := .slice ax x.length ca) rfl
      have ka1 := (HA.out.ext hX13).cellv 1 (v := .slice bx y.length cb) rfl
      have ka2 := (HA.out.ext hX13).cellv 2 (v := .slice a x.length cap) rfl
      have lt1 := (HA.out.ext hX13).lt
      have C41 := f41_c ax bx a x.length y.length x.length cap ca cb x y t w13 (HX.out.ext hE13) rfl (by have := HF.out.T.n5; omega) (HY.out.ext hE13) rfl (by have := HF.out.T.m5; omega) (HLt.out.ext hE13) Hn.out (by have := HF.out.T.n5; omega) Hin.out
      unfold RetBest at C41
      rw [H0.out] at C41
      have C41 := Lib.hid C41
      go_wp2_with fail
      refine C41.out.mono ?_
      rintro e w14 ⟨v, P, rfl, hT, -, hB, hY⟩
      have hB := hB (by first | rfl | trivial)
      have hX14 := hX13.trans' hY
      have hE14 := hE0.trans' hX14
      obtain ⟨aP, cP, rfl, hTP⟩ := hT.table
      have hPl := hB.1.1
      have hPc := hB.1.2
      have hn5 := HF.out.T.n5
      have hm5 := HF.out.T.m5
      have hn1 := HF.out.T.n1
      have hm1 := HF.out.T.m1
      have C21 := Lib.hid (f21_c aP P.length cP P w14 hTP rfl (by omega) (fun j hj => by have h1 := hPc j (by omega); rw [row_at hj] at h1; omega))
      have HBe := Lib.hid hB
      have HPl := Lib.hid hPl
      have HPc := Lib.hid hPc
      clear hT hB hTP hPl hPc hY hX13 hE13 C41 ka0 ka1 ka2 lt1
      go_wp2_with fail
      refine C21.out.mono ?_
      rintro e w15 ⟨v, rfl, ⟨AA, CC, GG, OO, hT⟩, hY⟩
      have hX15 := hX14.trans' hY
      have hE15 := hE0.trans' hX15
      obtain ⟨gP, cG, rfl, hgB, hgU, -⟩ := hT.top (i := 0) (by rw [HPl.out]; omega)
      rw [HPl.out] at hT ⊢
      have hx14 := hX14.size
      have hT0 : Hid (OwnL 31 w15 w14.heap.size w15.heap.size (.slice (some ⟨gP, 0, none⟩) x.length cG) AA CC GG OO (upT x.length y.length (fun i j => tg P i j * 1000) P 0 0)) := Lib.hid (by rw [upT_zero HPl.out HPc.out]; exact hT)
      have Hpb : Hid (∀ i j, i < x.length → j < y.length → 0 ≤ tg P i j ∧ tg P i j ≤ 30) := Lib.hid (fun i j hi hj => ⟨HBe.out.2.1.pos i j hi hj, by have := HBe.out.2.1.le hi hj; have := HF.out.bx i; omega⟩)
      clear hT hY C21 hX14 hE14
      go_wp2_with fail
      go_loopw [26] (fun i wr => ∃ k : Nat, k ≤ x.length ∧ i = .int .i64 k ∧ Ext w0 wr ∧ Hid (OwnL 31 wr w14.heap.size w15.heap.size (.slice (some ⟨gP, 0, none⟩) x.length cG) AA CC GG OO (upT x.length y.length (fun i j => tg P i j * 1000) P k 0))) (fun i _ => x.length - (intOf i).toNat)
      case atStart => exact ⟨0, Nat.zero_le _, rfl, hX15, hT0⟩
      case round =>
        obtain ⟨k, hk, rfl, hX16, HO⟩ := hrel
        by_cases hlt : k < x.length
        case pos =>
          obtain ⟨s1, s2, s3, -⟩ := HO.out.spot (i := k) (upT_len _ _ _ _ _ _) rfl hlt (upT_cols hlt) hm1
          have zP : gP < wr.heap.size := by have := HO.out.blk gP rfl; have := HO.out.upto; omega
          have zG : GG k < wr.heap.size := by have := HO.out.upto; omega
          go_wp2_with fail
          go_loopw [27] (fun i wr => ∃ q : Nat, q ≤ y.length ∧ i = .int .i64 q ∧ Ext w0 wr ∧ Hid (OwnL 31 wr w14.heap.size w15.heap.size (.slice (some ⟨gP, 0, none⟩) x.length cG) AA CC GG OO (upT x.length y.length (fun i j => tg P i j * 1000) P k q))) (fun i _ => y.length - (intOf i).toNat)
          case atStart => exact ⟨0, Nat.zero_le _, rfl, hX16, HO⟩
          case round =>
            obtain ⟨q, hq, rfl, hX17, HO⟩ := hrel
            obtain ⟨s1, s2, s3, s4⟩ := HO.out.spot (i := k) (upT_len _ _ _ _ _ _) rfl hlt (upT_cols hlt) hm1
            have zP : gP < wr.heap.size := by have := HO.out.blk gP rfl; have := HO.out.upto; omega
            have zG : GG k < wr.heap.size := by have := HO.out.upto; omega
            by_cases hlq : q < y.length
            case pos =>
              obtain ⟨s5, s6⟩ := s4 q hlq
              rw [upT_self hlt hlq] at s5
              have hpb := Hpb.out k q hlt hlq
              have HO2 := HO.out.store (i := k) (j := q) (by rw [upT_len]; exact hlt) (by rw [upT_cols hlt]; exact hlq) (tg P k q * 1000)
              rw [upT_set hlt hlq _ rfl] at HO2
              have HO2 := Lib.hid HO2
              have hX18 : Ext w0 _ := hX17.setCell (p := ⟨GG k, OO k + q, none⟩) (by show w0.heap.size ≤ GG k; omega) (.int .i64 (tg P k q * 1000))
              clear s4
              generalize tg P k q = z at *
              go_wp2_with fail
              go_roundw
              case rel => exact ⟨q + 1, by omega, by go_num, hX18, HO2⟩
              case measure => simp [intOf]; omega
            obtain rfl : q = y.length := by omega
            rw [upT_row] at HO
            clear s4
            go_wp2_with fail
            go_roundw
            case rel => exact ⟨k + 1, by omega, by go_num, hX17, HO⟩
            case measure => simp [intOf]; omega
        obtain rfl : k = x.length := by omega
        rw [upT_full] at HO
        obtain ⟨aG, cG2, hpe, hTG⟩ := OwnT.table ⟨AA, CC, GG, OO, HO.out⟩
        injection hpe with hp1 hp2 hp3
        rw [mk_len] at hp2
        obtain ⟨hW, hcost⟩ := grains_whole HF.out HBe.out (G := mk x.length y.length fun i j => tg P i j * 1000) rfl
        have hLc : costT x.length y.length (tg t) (tg P) = L := HS.out.least _ ⟨fun h => absurd H0.out h, fun _ => ⟨P, HBe.out, rfl⟩⟩
        rw [hLc] at hcost
        have hE16 := hE0.trans' hX16
        have C36b := C36.out wr aG cG2 _ hE16 hTG hW (by rw [hcost]; omega)
        unfold RetFr at C36b
        rw [hcost, show L * 1000 - L * 1000 = 0 by omega] at C36b
        unfold fracV at C36b
        rw [frac_zero.1, frac_zero.2, ← hp1, ← hp3] at C36b
        have C36b := Lib.hid C36b
        have hX160 := hX16
        obtain ⟨w16, rfl⟩ : ∃ w16 : World, w16 = wr := ⟨_, rfl⟩
        clear hp1 hp2 hp3 hTG hW hcost hLc HO C36 hT0
        have ka0 := (HA.out.ext hX16).cellv 0 (v := .slice ax x.length ca) rfl
        have ka1 := (HA.out.ext hX16).cellv 1 (v := .slice bx y.length cb) rfl
        have ka2 := (HA.out.ext hX16).cellv 2 (v := .slice a x.length cap) rfl
        have lt1 := (HA.out.ext hX16).lt
        go_wp2_with fail
        refine C36b.out.mono ?_
        rintro e w17 ⟨rfl, hY⟩
        have hE17 := hE16.trans' hY
        have hE18 := hE17.trans' (ext_alloc w17 (.cells #[.int .i64 0, .int .i64 1] 46))
        clear C36b hY
        go_wp2_with fail
        go_ret
        exact ⟨rfl, hE18⟩
end Go.Proofs.Ytaidoaggmllcfaa
