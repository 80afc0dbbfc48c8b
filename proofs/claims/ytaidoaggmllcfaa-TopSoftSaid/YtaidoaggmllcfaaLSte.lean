/- The law of steps: no row gets more than its mass, and hardly less; walked. -/
import Derived.Test.YtaidoaggmllcfaaLFit
namespace Go.Proofs.Ytaidoaggmllcfaa
open Go.RowKit
attribute [local go_sem] GW.cell

theorem share_two {x y s : Int} (hs : 0 < s) : shareV x y s * s ≤ x * (y * 1000) ∧ x * (y * 1000) ≤ shareV x y s * s + (s - 1) := by
  unfold shareV
  rw [if_neg (by omega), ← Int.mul_assoc]
  have h1 := Int.ediv_mul_le (x * y * 1000) (show s ≠ 0 by omega)
  have h2 := Int.lt_ediv_add_one_mul_self (x * y * 1000) hs
  rw [Int.add_mul, Int.one_mul] at h2
  omega
theorem fit_sums {n m : Nat} {hi : Int} {t : Tbl} {l : List Int} (h : TOk n m 0 hi t) {i : Nat} (hi' : i < n) (hs : 0 < sm (row t i)) : ∀ k : Nat, k ≤ m →
    smTo (row (fitR n m t l) i) k * sm (row t i) ≤ smTo (row t i) k * (gi l i * 1000) ∧ smTo (row t i) k * (gi l i * 1000) ≤ smTo (row (fitR n m t l) i) k * sm (row t i) + k * (sm (row t i) - 1)
  | 0, _ => by simp [smTo]
  | k + 1, hk => by
    obtain ⟨h1, h2⟩ := fit_sums (l := l) h hi' hs k (by omega)
    have e : gi (row (fitR n m t l) i) k = shareV (tg t i k) (gi l i) (sm (row t i)) := tg_mk _ hi' (show k < m by omega)
    obtain ⟨h3, h4⟩ := share_two (x := tg t i k) (y := gi l i) hs
    rw [smTo_succ, smTo_succ, e, Int.add_mul, Int.add_mul]
    have e2 : gi (row t i) k = tg t i k := rfl
    rw [e2]
    have e3 : ((k + 1 : Nat) : Int) * (sm (row t i) - 1) = k * (sm (row t i) - 1) + (sm (row t i) - 1) := by rw [show ((k + 1 : Nat) : Int) = (k : Int) + 1 by omega, Int.add_mul, Int.one_mul]
    rw [e3]
    omega
theorem fit_row_sum {n m : Nat} {hi : Int} {t : Tbl} {l : List Int} (h : TOk n m 0 hi t) {i : Nat} (hi' : i < n) (hl : 0 ≤ gi l i) : sm (row (fitR n m t l) i) ≤ gi l i * 1000 ∧ (0 < sm (row t i) → gi l i * 1000 - m < sm (row (fitR n m t l) i)) := by
  have hm1 := h.m1
  have e : sm (row (fitR n m t l) i) = smTo (row (fitR n m t l) i) m := by unfold sm; rw [show (row (fitR n m t l) i).length = m from mk_cols _ hi']
  have e2 : sm (row t i) = smTo (row t i) m := by unfold sm; rw [h.cols i hi']
  have h0 := (sm_bd h hi').1
  by_cases hs : 0 < sm (row t i)
  · obtain ⟨h1, h2⟩ := fit_sums (l := l) h hi' hs m (Nat.le_refl _)
    rw [← e, ← e2] at h1 h2
    generalize sm (row (fitR n m t l) i) = F at *
    generalize sm (row t i) = s at *
    generalize gi l i * 1000 = X at *
    have hX : s * X = X * s := Int.mul_comm _ _
    rw [hX] at h1 h2
    refine ⟨Int.le_of_mul_le_mul_right h1 hs, fun _ => ?_⟩
    refine Int.lt_of_mul_lt_mul_right (a := s) ?_ (by omega)
    rw [Int.sub_mul]
    have : (m : Int) * (s - 1) = m * s - m := by rw [Int.mul_sub, Int.mul_one]
    omega
  · have hz : sm (row t i) = 0 := by omega
    refine ⟨?_, fun h => absurd h hs⟩
    have : ∀ k : Nat, k ≤ m → smTo (row (fitR n m t l) i) k = 0 := by
      intro k
      induction k with
      | zero => intro _; rfl
      | succ k ih =>
        intro hk
        have e3 : gi (row (fitR n m t l) i) k = shareV (tg t i k) (gi l i) (sm (row t i)) := tg_mk _ hi' (show k < m by omega)
        rw [smTo_succ, ih (by omega), e3, hz]
        simp [shareV]
    rw [e, this m (Nat.le_refl _)]
    omega
/-- the first number of the first i rows is -1 -/
def minusT (n m : Nat) (F : Tbl) (i : Nat) : Tbl := upT n m (fun r c => if c = 0 then -1 else tg F r c) F i 0
theorem minusT_len (n m : Nat) (F : Tbl) (i : Nat) : (minusT n m F i).length = n := upT_len _ _ _ _ _ _
theorem minusT_cols {n m : Nat} {F : Tbl} {i k : Nat} (h : k < n) : (row (minusT n m F i) k).length = m := upT_cols h
theorem minusT_tg {n m : Nat} {F : Tbl} {i : Nat} (hi : i < n) {j : Nat} (hj : j < m) : tg (minusT n m F i) i j = tg F i j := by
  unfold minusT upT; rw [tg_mk _ hi hj, if_neg (by omega)]
theorem minusT_set {n m : Nat} {F : Tbl} {i : Nat} (hi : i < n) (hm : 0 < m) : setT (minusT n m F i) i 0 (-1) = minusT n m F (i + 1) := by
  unfold minusT
  rw [upT_set hi hm (-1) (by simp)]
  unfold upT
  refine mk_eq fun r c hr hc => ?_
  by_cases h : r < i
  · rw [if_pos (by omega), if_pos (by omega)]
  · by_cases h2 : r = i
    · subst h2
      by_cases h3 : c = 0
      · subst h3; rw [if_pos (by omega), if_pos (by omega)]
      · rw [if_neg (by omega), if_pos (by omega)]; show tg F r c = if c = 0 then -1 else tg F r c; rw [if_neg h3]
    · rw [if_neg (by omega), if_neg (by omega)]
theorem minusT_sm {n m : Nat} {F : Tbl} {i : Nat} (hi : i < n) (hF : (row F i).length = m) : sm (row (minusT n m F i) i) = sm (row F i) := by
  unfold sm
  rw [minusT_cols hi, hF]
  exact smTo_eq fun j hj => minusT_tg hi hj
theorem rowsV_small (t : Tbl) (x : List Int) : (fitRowsV t x).length ≤ 1000000 ∧ ∀ j, (hj : j < (fitRowsV t x).length) → (fitRowsV t x)[j].length ≤ 1000000 := by
  unfold fitRowsV
  split
  · next h =>
    simp only [rowsOk, Bool.and_eq_true, decide_eq_true_eq] at h
    have h1 := tabB_ok h.1
    unfold fitR
    refine ⟨by rw [mk_len]; have := h1.n5; omega, fun j hj => ?_⟩
    rw [← row_at hj]
    rw [mk_len] at hj
    rw [mk_cols _ hj]; have := h1.m5; omega
  · simp
theorem colsV_small (t : Tbl) (x : List Int) : (fitColsV t x).length ≤ 1000000 ∧ ∀ j, (hj : j < (fitColsV t x).length) → (fitColsV t x)[j].length ≤ 1000000 := by
  unfold fitColsV
  split
  · next h =>
    simp only [colsOk, Bool.and_eq_true, decide_eq_true_eq] at h
    have h1 := tabB_ok h.1
    unfold fitC
    refine ⟨by rw [mk_len]; have := h1.n5; omega, fun j hj => ?_⟩
    rw [← row_at hj]
    rw [mk_len] at hj
    rw [mk_cols _ hj]; have := h1.m5; omega
  · simp
set_option maxRecDepth 20000 in
set_option maxHeartbeats 8000000 in
theorem steps_walk (w : World) (a : Option Addr) (len cap : Nat) (t : Tbl) (hl : Table w a t) (hn : t.length = len) (hlen : len ≤ 9223372036854775807)
    (ax : Option Addr) (na ca : Nat) (x : List Int) (hx : Ints w ax x) (hxn : x.length = na) (bx : Option Addr) (nb cb : Nat) (y : List Int) (hy : Ints w bx y) (hyn : y.length = nb) :
    Calls Try.prog 4 #[.slice a len cap, .agg #[.slice ax na ca, .slice bx nb cb]] w fun e w' => e = .returned (.bool true) ∧ Below w.heap.size w w' := by
  have hE0 := ext_alloc w (.cells #[.slice ax na ca, .slice bx nb cb] 33)
  have HB := Lib.hid (BlkC.new w #[.slice ax na ca, .slice bx nb cb] 33)
  have hlt := HB.out.lt
  have C13 := f13_c a len cap t _ (hl.ext hE0) hn hlen
  have C20 := Lib.hid (fun W => f20_c ax bx na ca nb cb W)
  have hc0 := HB.out.cellv 0 (v := .slice ax na ca) rfl
  have hc1 := HB.out.cellv 1 (v := .slice bx nb cb) rfl
  have C13 := Lib.hid C13
  by_cases hw : wideB t = false ∧ na ≤ 50 ∧ nb ≤ 50
  case neg =>
    cases hw1 : wideB t
    · have d1 : (decide (50 < na) || decide (50 < nb)) = true := by simp [hw1] at hw; simp; omega
      rw [hw1] at C13
      clear hw hw1
      go_enter Try.func4, Try.ntmps4
      go_wp2_with fail
      generalize w.alloc (.cells #[.slice ax na ca, .slice bx nb cb] 33) = w0 at *
      go_wp2_with (first | (go_at_call 13; refine C13.out.mono ?_; rintro e w' ⟨rfl, rfl⟩) | (go_at_call 20; refine (C20.out _).mono ?_; rintro e w' ⟨rfl, rfl⟩))
      refine (f14_c _).mono ?_
      rintro e w4 ⟨rfl, hX4⟩
      go_wp2_with fail
      go_ret
      exact ⟨rfl, hE0.trans' hX4⟩
    · rw [hw1] at C13
      clear hw hw1
      go_enter Try.func4, Try.ntmps4
      go_wp2_with fail
      generalize w.alloc (.cells #[.slice ax na ca, .slice bx nb cb] 33) = w0 at *
      go_wp2_with (first | (go_at_call 13; refine C13.out.mono ?_; rintro e w' ⟨rfl, rfl⟩) | (go_at_call 20; refine (C20.out _).mono ?_; rintro e w' ⟨rfl, rfl⟩))
      refine (f14_c _).mono ?_
      rintro e w4 ⟨rfl, hX4⟩
      go_wp2_with fail
      go_ret
      exact ⟨rfl, hE0.trans' hX4⟩
  obtain ⟨hw1, ha, hb⟩ := hw
  obtain ⟨h1, hin⟩ := wide_in hw1
  rw [hw1] at C13
  have d1 : (decide (50 < na) || decide (50 < nb)) = false := by simp; omega
  have Hin := Lib.hid hin
  have hlen1 : len ≤ 1000000 := by omega
  have Hn := Lib.hid hn
  have Hxn := Lib.hid hxn
  have Hyn := Lib.hid hyn
  have C23 := Lib.hid (fun W (h : Ext w W) => f23_c a ax len cap na ca t x W (hl.ext h) hn hlen1 hin (hx.ext h) hxn (by omega))
  have C25 := Lib.hid (fun W (h : Ext w W) => f25_c a bx len cap nb cb t y W (hl.ext h) hn hlen1 hin (hy.ext h) hyn (by omega))
  have C22 := Lib.hid (fun A c W (h1 : Table W A t) (h : Ext w W) => f22_c A ax len c na ca t x W h1 hn hlen1 hin (hx.ext h) hxn (by omega))
  have C24 := Lib.hid (fun A c W (h1 : Table W A t) (h : Ext w W) => f24_c A bx len c nb cb t y W h1 hn hlen1 hin (hy.ext h) hyn (by omega))
  have C21 := Lib.hid (fun W (h : Ext w W) => f21_c a len cap t W (hl.ext h) hn hlen1 hin)
  have C19 := Lib.hid (fun A1 A2 c1 c2 W (h1 : Table W A1 t) (h2 : Table W A2 t) => f19_c A1 A2 len c1 len c2 t t W h1 h2 hn hn hlen1 hlen1 hin hin)
  rw [sameT_rfl] at C19
  obtain ⟨hr1, hr2⟩ := rowsV_small t x
  obtain ⟨hq1, hq2⟩ := colsV_small t y
  have Hr2 := Lib.hid hr2
  have Hq2 := Lib.hid hq2
  have hrv : Hid ((rowsOk t x = true → fitRowsV t x = fitR t.length (row t 0).length t x) ∧ (rowsOk t x = false → fitRowsV t x = [])) := Lib.hid (by unfold fitRowsV; constructor <;> intro h <;> rw [h] <;> rfl)
  clear hin hr2 hq2 hw1 h1 hn hxn hyn
  generalize hE1' : errOf (rowsOk t x) = E1 at *
  generalize errOf (colsOk t y) = E2 at *
  go_enter Try.func4, Try.ntmps4
  go_wp2_with fail
  generalize w.alloc (.cells #[.slice ax na ca, .slice bx nb cb] 33) = w0 at *
  go_wp2_with (first | (go_at_call 13; refine C13.out.mono ?_; rintro e w' ⟨rfl, rfl⟩) | (go_at_call 20; refine (C20.out _).mono ?_; rintro e w' ⟨rfl, rfl⟩))
  refine (C21.out _ hE0).mono ?_
  rintro e w1 ⟨vo, rfl, hTo, hX1⟩
  obtain ⟨ao, co, rfl, hTo'⟩ := hTo.table
  rw [Hn.out]
  have HTo := Lib.hid hTo'
  clear hTo hTo'
  have hE1 := hE0.trans' hX1
  have hc0 := (HB.out.ext hX1).cellv 0 (v := .slice ax na ca) rfl
  have hc1 := (HB.out.ext hX1).cellv 1 (v := .slice bx nb cb) rfl
  have hlt1 := (HB.out.ext hX1).lt
  go_wp2_with fail
  refine (C22.out _ _ _ HTo.out hE1).mono ?_
  rintro e w2 ⟨va, rfl, hTa, hX2⟩
  have hE2 := hE1.trans' hX2
  obtain ⟨aa, cca, rfl, hTa'⟩ := hTa.table
  have HTa := Lib.hid hTa'
  have HOa := Lib.hid hTa
  clear hTa hTa'
  have hX02 := hX1.trans' hX2
  have hc0 := (HB.out.ext hX02).cellv 0 (v := .slice ax na ca) rfl
  have hc1 := (HB.out.ext hX02).cellv 1 (v := .slice bx nb cb) rfl
  have hlt2 := (HB.out.ext hX02).lt
  go_wp2_with fail
  refine (C23.out _ hE2).mono ?_
  rintro e w3 hR
  obtain ⟨ab, ccb, rfl, hTb, hX3⟩ := hR.open_
  have HTb := Lib.hid hTb
  clear hR hTb
  have hE3 := hE2.trans' hX3
  have hX13 := hX2.trans' hX3
  have hX03 := hX02.trans' hX3
  have hc0 := (HB.out.ext hX03).cellv 0 (v := .slice ax na ca) rfl
  have hc1 := (HB.out.ext hX03).cellv 1 (v := .slice bx nb cb) rfl
  have hlt3 := (HB.out.ext hX03).lt
  go_wp2_with fail
  refine (C24.out _ _ _ (HTo.out.ext hX13) hE3).mono ?_
  rintro e w4 hR
  obtain ⟨ac, ccc, rfl, hTc, hX4⟩ := hR.open_
  have HTc := Lib.hid hTc
  clear hR hTc
  have hE4 := hE3.trans' hX4
  have hX14 := hX13.trans' hX4
  have hX24 := hX3.trans' hX4
  have hX04 := hX03.trans' hX4
  have hc0 := (HB.out.ext hX04).cellv 0 (v := .slice ax na ca) rfl
  have hc1 := (HB.out.ext hX04).cellv 1 (v := .slice bx nb cb) rfl
  have hlt4 := (HB.out.ext hX04).lt
  go_wp2_with fail
  refine (C25.out _ hE4).mono ?_
  rintro e w5 hR
  obtain ⟨ad, ccd, rfl, hTd, hX5⟩ := hR.open_
  have HTd := Lib.hid hTd
  clear hR hTd
  have hE5 := hE4.trans' hX5
  have hX15 := hX14.trans' hX5
  have hX25 := hX24.trans' hX5
  have hX05 := hX04.trans' hX5
  have hX45 := hX4.trans' hX5
  go_wp2_with fail
  refine (f19_c _ _ _ _ _ _ (fitRowsV t x) (fitRowsV t x) _ (HTa.out.ext hX25) (HTb.out.ext hX45) rfl rfl hr1 hr1 Hr2.out Hr2.out).mono ?_
  rintro e w6 ⟨rfl, hX6⟩
  rw [sameT_rfl]
  go_wp2_with fail
  refine (f19_c _ _ _ _ _ _ (fitColsV t y) (fitColsV t y) _ (HTc.out.ext (hX5.trans' hX6)) (HTd.out.ext hX6) rfl rfl hq1 hq1 Hq2.out Hq2.out).mono ?_
  rintro e w7 ⟨rfl, hX7⟩
  rw [sameT_rfl]
  have hX67 := hX6.trans' hX7
  have hE7 := hE5.trans' hX67
  have hX17 := hX15.trans' hX67
  have hX27 := hX25.trans' hX67
  have hX07 := hX05.trans' hX67
  have HOa := Lib.hid (HOa.out.ext hX27)
  clear HTa HTb HTc HTd hX6 hX7 hX67 hX45 hX05 hX25 hX15 hX5 hX04 hX24 hX14 hX4 hX03 hX13 hX3 hX02 hlt4 hlt3 hlt2 hlt1 hc0 hc1
  have hw12 := hX2.size
  cases hro : rowsOk t x
  · have e0 := hrv.out.2 hro
    rw [e0] at HOa ⊢
    clear hro hE1' hrv e0
    go_wp2_with fail
    go_loop [14, 15] (fun i _ => i = .int .i64 0) (fun i _ => 1 - (intOf i).toNat)
    case atStart => rfl
    case round =>
      subst hrel
      go_wp2_with fail
      refine (C19.out _ _ _ _ _ (HTo.out.ext hX17) (hl.ext hE7)).mono ?_
      rintro e w8 ⟨rfl, hX8⟩
      go_wp2_with fail
      refine (f14_c _).mono ?_
      rintro e w9 ⟨rfl, hX9⟩
      go_wp2_with fail
      go_ret
      exact ⟨rfl, hE7.trans' (hX8.trans' hX9)⟩
  · have e0 := hrv.out.1 hro
    have hro2 := hro
    simp only [rowsOk, Bool.and_eq_true, decide_eq_true_eq] at hro2
    obtain ⟨g1, g2, g3⟩ := hro2
    have H0 := tabB_ok g1
    have hxb := (massB_ok g2).2.2
    rw [e0] at HOa ⊢
    have hsum := fun i (hi : i < t.length) => fit_row_sum (l := x) H0 hi (hxb i (by omega)).1
    have hFl : (fitR t.length (row t 0).length t x).length = t.length := mk_len _ _ _
    have hFc : ∀ i, i < t.length → (row (fitR t.length (row t 0).length t x) i).length = (row t 0).length := fun i hi => mk_cols _ hi
    have hFb := fitR_ok H0 (l := x) (fun j hj => hxb j (by omega))
    have hn1 := H0.n1
    have hn5 := H0.n5
    have hm1 := H0.m1
    have hm5 := H0.m5
    have HT := Lib.hid H0
    have Hsum := Lib.hid hsum
    have Hxb := Lib.hid hxb
    have G3 := Lib.hid g3
    have HFc := Lib.hid hFc
    have HFb := Lib.hid hFb
    have hm0 : minusT t.length (row t 0).length (fitR t.length (row t 0).length t x) 0 = fitR t.length (row t 0).length t x := upT_zero hFl hFc
    clear hro hE1' hrv e0 g1 g2 g3 H0 hxb hsum hFc hFb
    rw [hFl]
    generalize (row t 0).length = m at *
    generalize fitR t.length m t x = F at *
    obtain ⟨A, C, G, O, HL⟩ := HOa.out
    obtain ⟨g, cp, hv, hgB, hgU, _⟩ := HL.top (i := 0) (by omega)
    rw [hFl] at hv
    injection hv with hv1 hv2 hv3
    subst hv1 hv3
    rw [← hm0, minusT_len] at HL
    have HL0 := Lib.hid HL
    clear HL HOa hv2 hm0 hFl
    have hxl : x.length ≤ t.length ∧ t.length ≤ x.length := by have := G3.out; omega
    go_wp2_with fail
    go_loopw [14, 15] (fun i _ wr => ∃ k : Nat, k ≤ t.length ∧ i = .int .i64 k ∧ Ext w wr ∧ Ext w1 wr ∧ Hid (OwnL 31 wr w1.heap.size w2.heap.size (.slice (some ⟨g, 0, none⟩) t.length cca) A C G O (minusT t.length m F k))) (fun i _ _ => t.length - (intOf i).toNat)
    case atStart => exact ⟨0, Nat.zero_le _, rfl, hE7, hX17, HL0⟩
    case round =>
      obtain ⟨k, hk, rfl, hE, hX, H⟩ := hrel
      have hX0 := hX1.trans' hX
      have hc0 := (HB.out.ext hX0).cellv 0 (v := .slice ax na ca) rfl
      have hltk := (HB.out.ext hX0).lt
      have hup := H.out.upto
      by_cases hlk : k < t.length
      · obtain ⟨ht, hBk, hUk, hcs⟩ := H.out.spot (minusT_len _ _ _ _) rfl hlk (minusT_cols hlk) (by omega)
        obtain ⟨b1, o1, a1, c1, rfl, hb1, hc1, hI1⟩ := hl.ext hE k hlk
        have hmk := HT.out.cols k hlk
        rw [row_at hlk] at hmk
        rw [hmk] at hc1
        obtain ⟨b4, o4, rfl, hb4, hc4⟩ := hx.ext hE k (by omega)
        rw [← gi_at] at hc4
        have hxk := Hxb.out k (by omega)
        obtain ⟨s1, s2⟩ := Hsum.out k hlk
        have Ca := Lib.hid (fun W (h : Ext wr W) => f26_c (some ⟨G k, O k, none⟩) m (C k) (row (minusT t.length m F k) k) W
          (fun j hj => by rw [minusT_cols hlk] at hj; exact ⟨G k, O k, rfl, Nat.lt_of_lt_of_le (Nat.lt_of_lt_of_le hUk hup) h.size, (h.cell' (by omega)).trans (hcs j hj).1⟩) (minusT_cols hlk) (by omega)
          (fun j hj => by rw [minusT_cols hlk] at hj; have e := minusT_tg (F := F) hlk hj; unfold tg at e; rw [e]; have := HFb.out.bd k j hlk hj; unfold tg at this; omega))
        rw [minusT_sm hlk (HFc.out k hlk)] at Ca
        have Ck := Lib.hid (fun W (h : Ext wr W) => f26_c a1 m c1 t[k] W (hI1.ext h) hmk (by omega) (fun j hj => by have := HT.out.bd k j hlk (by omega); unfold tg at this; rw [row_at hlk] at this; omega))
        rw [← row_at hlk] at Ck
        have hFs := (sm_bd HFb.out hlk).1
        have hFs2 : sm (row F k) ≤ 1000000 := by have := (sm_bd HFb.out hlk).2; have h3 : (m : Int) * 30000 ≤ 5 * 30000 := Int.mul_le_mul_of_nonneg_right (by omega) (by omega); omega
        have hts := (sm_bd HT.out hlk).1
        have hst := H.out.store (i := k) (j := 0) (by rw [minusT_len]; exact hlk) (by rw [minusT_cols hlk]; omega) (-1)
        rw [minusT_set hlk (by omega)] at hst
        have hfz := (hcs 0 (by omega)).2
        have hcell := (hcs 0 (by omega)).1
        simp only [Nat.add_zero] at hst hfz hcell
        have d2 : decide (gi x k * 1000 < sm (row F k)) = false := by simp; omega
        have z1 : G k < wr.heap.size := by omega
        have hkna : k < na := by have := Hxn.out; omega
        have hkle : k < len := by have := Hn.out; omega
        have z2 : g < wr.heap.size := by omega
        clear hcs hI1 hmk
        have Hst := Lib.hid H
        clear hst
        by_cases hs : 0 < sm (row t k)
        · have s3 := s2 hs
          have d3 : decide (0 < sm (row t k)) = true := by simp [hs]
          have d4 : decide (sm (row F k) ≤ gi x k * 1000 - (m : Int)) = false := by simp; omega
          clear s1 s2 s3 hs
          generalize sm (row F k) = p at *
          generalize sm (row t k) = q at *
          generalize gi x k = z at *
          go_wp2_with (go_at_call 26; refine (Ca.out _ (Ext.rfl' _)).mono ?_; rintro e w' ⟨rfl, rfl⟩)
          refine wp_region_ext (by kernel_rfl) (by kernel_rfl) ?_
          repeat (go_big_quiet_step ((go_at_call 26; exact quiet_same (Ck.out _ (GW.ext _)))))
          refine wpQuiet_nil ?_
          intro w8 hX8
          have HL8 := Lib.hid (H.out.ext hX8)
          have hst := HL8.out.store (i := k) (j := 0) (by rw [minusT_len]; exact hlk) (by rw [minusT_cols hlk]; omega) (-1)
          rw [minusT_set hlk (by omega)] at hst
          simp only [Nat.add_zero] at hst
          obtain ⟨ht8, _, _, hcs8⟩ := HL8.out.spot (minusT_len _ _ _ _) rfl hlk (minusT_cols hlk) (by omega)
          have hfz8 := (hcs8 0 (by omega)).2
          have hcell8 := (hcs8 0 (by omega)).1
          simp only [Nat.add_zero] at hfz8 hcell8
          have Hs8 := Lib.hid hst
          have hE8 := hE.trans' hX8
          have hXX8 := hX.trans' hX8
          have hw1s := hX1.size
          have hE0s := hE1.size
          clear hst hcs8
          go_wp2_with fail
          go_roundw
          case rel => exact ⟨k + 1, by omega, by go_num, hE8.setCell (show w.heap.size ≤ G k by omega) _, hXX8.setCell hBk _, Hs8⟩
          case measure => simp [intOf]; omega
        · have d3 : decide (0 < sm (row t k)) = false := by simp; omega
          clear s1 s2 hs
          generalize sm (row F k) = p at *
          generalize sm (row t k) = q at *
          generalize gi x k = z at *
          go_wp2_with (go_at_call 26; refine (Ca.out _ (Ext.rfl' _)).mono ?_; rintro e w' ⟨rfl, rfl⟩)
          refine wp_region_ext (by kernel_rfl) (by kernel_rfl) ?_
          repeat (go_big_quiet_step ((go_at_call 26; exact quiet_same (Ck.out _ (GW.ext _)))))
          refine wpQuiet_nil ?_
          intro w8 hX8
          have HL8 := Lib.hid (H.out.ext hX8)
          have hst := HL8.out.store (i := k) (j := 0) (by rw [minusT_len]; exact hlk) (by rw [minusT_cols hlk]; omega) (-1)
          rw [minusT_set hlk (by omega)] at hst
          simp only [Nat.add_zero] at hst
          obtain ⟨ht8, _, _, hcs8⟩ := HL8.out.spot (minusT_len _ _ _ _) rfl hlk (minusT_cols hlk) (by omega)
          have hfz8 := (hcs8 0 (by omega)).2
          have hcell8 := (hcs8 0 (by omega)).1
          simp only [Nat.add_zero] at hfz8 hcell8
          have Hs8 := Lib.hid hst
          have hE8 := hE.trans' hX8
          have hXX8 := hX.trans' hX8
          have hw1s := hX1.size
          have hE0s := hE1.size
          clear hst hcs8
          go_wp2_with fail
          go_roundw
          case rel => exact ⟨k + 1, by omega, by go_num, hE8.setCell (show w.heap.size ≤ G k by omega) _, hXX8.setCell hBk _, Hs8⟩
          case measure => simp [intOf]; omega
      · obtain rfl : k = t.length := by omega
        go_wp2_with fail
        refine (C19.out _ _ _ _ _ (HTo.out.ext hX) (hl.ext hE)).mono ?_
        rintro e w8 ⟨rfl, hX8⟩
        go_wp2_with fail
        refine (f14_c _).mono ?_
        rintro e w9 ⟨rfl, hX9⟩
        go_wp2_with fail
        go_ret
        exact ⟨rfl, hE.trans' (hX8.trans' hX9)⟩

end Go.Proofs.Ytaidoaggmllcfaa
