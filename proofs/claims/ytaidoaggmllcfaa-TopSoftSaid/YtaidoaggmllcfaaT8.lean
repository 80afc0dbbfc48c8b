/- Contracts of layer 6: rounds of steps. -/
import Derived.Test.YtaidoaggmllcfaaT7
namespace Go.Proofs.Ytaidoaggmllcfaa
open Go.RowKit
attribute [local go_sem] GW.cell

theorem share_bd {x y s : Int} (hx : 0 ≤ x ∧ x ≤ s) (hy : 0 ≤ y ∧ y ≤ 30) : 0 ≤ shareV x y s ∧ shareV x y s ≤ 30000 := by
  unfold shareV
  split
  · omega
  · next h =>
    have hs : 0 < s := by omega
    have h1 := Int.mul_nonneg hx.1 hy.1
    refine ⟨Int.ediv_nonneg (by omega) (by omega), ?_⟩
    refine Int.ediv_le_of_le_mul hs ?_
    have h2 : x * y ≤ s * 30 := Int.mul_le_mul hx.2 hy.2 hy.1 (by omega)
    omega
theorem smTo_mono {l : List Int} (h : ∀ j, j < l.length → 0 ≤ gi l j) : ∀ k, k ≤ l.length → ∀ j, j < k → gi l j ≤ smTo l k ∧ 0 ≤ smTo l k
  | 0, _, j, hj => by omega
  | k + 1, hk, j, hj => by
    have hk0 := h k (by omega)
    rw [smTo_succ]
    have hz : 0 ≤ smTo l k := by
      rcases Nat.eq_zero_or_pos k with e | e
      · subst e; simp [smTo]
      · exact (smTo_mono h k (by omega) 0 e).2
    by_cases e : j = k
    · subst e; omega
    · have := smTo_mono h k (by omega) j (by omega); omega
theorem csTo_mono {n m : Nat} {hi : Int} {t : Tbl} (h : TOk n m 0 hi t) {j : Nat} (hj : j < m) : ∀ k, k ≤ n → ∀ i, i < k → tg t i j ≤ csTo t j k
  | 0, _, i, hi' => by omega
  | k + 1, hk, i, hi' => by
    have hk0 := (h.bd k j (by omega) hj).1
    have hz := (csTo_bd h (Int.le_refl 0) hj k (by omega)).1
    show tg t i j ≤ csTo t j k + tg t k j
    by_cases e : i = k
    · subst e; omega
    · have := csTo_mono h hj k (by omega) i (by omega); omega
theorem fitR_ok {n m : Nat} {hi : Int} {t : Tbl} {l : List Int} (h : TOk n m 0 hi t) (hl : ∀ j, j < n → 0 ≤ gi l j ∧ gi l j ≤ 30) : TOk n m 0 30000 (fitR n m t l) :=
  ⟨h.n1, h.n5, h.m1, h.m5, mk_len _ _ _, fun i hi => mk_cols _ hi, fun i j hi hj => by
    unfold fitR; rw [tg_mk _ hi hj]
    have hc := h.cols i hi
    refine share_bd ⟨(h.bd i j hi hj).1, ?_⟩ (hl i hi)
    exact (smTo_mono (l := row t i) (fun q hq => (h.bd i q hi (by omega)).1) _ (Nat.le_refl _) j (by omega)).1⟩
theorem fitC_ok {n m : Nat} {hi : Int} {t : Tbl} {l : List Int} (h : TOk n m 0 hi t) (hl : ∀ j, j < m → 0 ≤ gi l j ∧ gi l j ≤ 30) : TOk n m 0 30000 (fitC n m t l) :=
  ⟨h.n1, h.n5, h.m1, h.m5, mk_len _ _ _, fun i hi => mk_cols _ hi, fun i j hi hj => by
    unfold fitC; rw [tg_mk _ hi hj, cs_n h]
    exact share_bd ⟨(h.bd i j hi hj).1, csTo_mono h hj n (Nat.le_refl _) i hi⟩ (hl j hj)⟩
/-- k rounds of fitting rows and columns -/
def fitN (n m : Nat) (a b : List Int) (t : Tbl) : Nat → Tbl
  | 0 => t
  | k + 1 => fitC n m (fitR n m (fitN n m a b t k) a) b
theorem fitN_ok {n m : Nat} {t : Tbl} {a b : List Int} (h : TOk n m 0 1000000 t) (ha : ∀ j, j < n → 0 ≤ gi a j ∧ gi a j ≤ 30) (hb : ∀ j, j < m → 0 ≤ gi b j ∧ gi b j ≤ 30) : ∀ k, TOk n m 0 1000000 (fitN n m a b t k)
  | 0 => h
  | k + 1 => (fitC_ok (fitR_ok (fitN_ok h ha hb k) ha) hb).weak (by omega)
theorem fitN_ok2 {n m : Nat} {t : Tbl} {a b : List Int} (h : TOk n m 0 1000000 t) (ha : ∀ j, j < n → 0 ≤ gi a j ∧ gi a j ≤ 30) (hb : ∀ j, j < m → 0 ≤ gi b j ∧ gi b j ≤ 30) {k : Nat} (hk : 1 ≤ k) : TOk n m 0 30000 (fitN n m a b t k) := by
  obtain ⟨q, rfl⟩ : ∃ q, k = q + 1 := ⟨k - 1, by omega⟩
  exact fitC_ok (fitR_ok (fitN_ok h ha hb q) ha) hb
/-- a table that can be read -/
def RetR (t : Tbl) (w : World) (e : Ending) (w' : World) : Prop := ∃ a c, e = .returned (.slice a t.length c) ∧ Table w' a t ∧ Ext w w'
def RetRE (t : Tbl) (err : Int) (w : World) (e : Ending) (w' : World) : Prop := ∃ a c, e = .returned (.tuple #[.slice a t.length c, .int .i64 err]) ∧ Table w' a t ∧ Ext w w'
theorem retRE_nil {w w' : World} {e : Int} (hE : Ext w w') : RetRE [] e w (.returned (.tuple #[.slice none 0 0, .int .i64 e])) w' := ⟨none, 0, rfl, fun j hj => by simp at hj, hE⟩
set_option maxRecDepth 20000 in
set_option maxHeartbeats 8000000 in
theorem f72_c (a ax bx : Option Addr) (n c m ca cb R : Nat) (t : Tbl) (x y : List Int) (w : World) (hl : Table w a t) (H0 : TOk n m 0 1000000 t) (hx : Ints w ax x) (hxn : x.length = n) (hxb : ∀ j, j < n → 0 ≤ gi x j ∧ gi x j ≤ 30)
    (hy : Ints w bx y) (hyn : y.length = m) (hyb : ∀ j, j < m → 0 ≤ gi y j ∧ gi y j ≤ 30) (hR : R ≤ 10) :
    Calls Try.prog 72 #[.slice a n c, .slice ax n ca, .slice bx m cb, .int .i64 (R : Int)] w (RetR (fitN n m x y t R) w) := by
  have hn5 := H0.n5
  have hm5 := H0.m5
  have HT := Lib.hid H0
  have Hxb := Lib.hid hxb
  have Hyb := Lib.hid hyb
  have Hxn := Lib.hid hxn
  have Hyn := Lib.hid hyn
  have HN := Lib.hid (fun k => fitN_ok H0 hxb hyb k)
  have HL := Lib.hid (fun k => (fitN_ok H0 hxb hyb k).len)
  have Hs : Hid (∀ k, fitN n m x y t (k + 1) = fitC n m (fitR n m (fitN n m x y t k) x) y) := Lib.hid (fun k => rfl)
  have h0 : fitN n m x y t 0 = t := rfl
  rw [← h0] at hl
  clear H0 hxb hyb hxn hyn h0
  generalize fitN n m x y t = F at *
  go_enter Try.func72, Try.ntmps72
  go_wp2_with fail
  go_loopw [0, 10, 12] (fun u _ i wr => ∃ k : Nat, k ≤ R ∧ i = .int .i64 k ∧ Ext w wr ∧ ∃ A C, u = .slice A n C ∧ Hid (Table wr A (F k))) (fun _ _ i _ => R - (intOf i).toNat)
  case atStart => exact ⟨0, Nat.zero_le _, rfl, Below.refl _ _, _, _, rfl, hl⟩
  case round =>
    obtain ⟨k, hk, rfl, hE, A, C, rfl, H⟩ := hrel
    by_cases hlt : k < R
    · obtain ⟨wo, rfl⟩ : ∃ wo : World, wo = wr := ⟨_, rfl⟩
      have HB := Lib.hid (BlkC.new wo #[.iface 87 (.slice ax n ca), .iface 89 (.slice bx m cb)] 113)
      have hlo := HB.out.lt
      have hE1 := ext_alloc wo (.cells #[.iface 87 (.slice ax n ca), .iface 89 (.slice bx m cb)] 113)
      go_wp2_with fail
      generalize wo.alloc (.cells #[.iface 87 (.slice ax n ca), .iface 89 (.slice bx m cb)] 113) = w1 at *
      go_loopw [0, 10, 20] (fun u _ i wr => ∃ q : Nat, q ≤ 2 ∧ i = .int .i64 q ∧ Ext w1 wr ∧ ∃ A C, u = .slice A n C ∧ Hid (Table wr A (if q = 0 then F k else if q = 1 then fitR n m (F k) x else F (k + 1)))) (fun _ _ i _ => 2 - (intOf i).toNat)
      case atStart => exact ⟨0, by omega, rfl, Below.refl _ _, _, _, rfl, by rw [if_pos rfl]; exact H.out.ext hE1⟩
      case round =>
        obtain ⟨q, hq, rfl, hE2, A2, C2, rfl, H2⟩ := hrel
        have hEr := hE.trans' (hE1.trans' hE2)
        by_cases h0 : q = 0
        · subst h0
          have hc := (HB.out.ext hE2).cellv 0 (v := .iface 87 (.slice ax n ca)) rfl
          rw [if_pos rfl] at H2
          have Cr := Lib.hid (f68_r A2 ax n C2 ca m (F k) x wr H2.out (HN.out k) (hx.ext hEr) Hxn.out (by rw [Hxn.out]; exact Hxb.out))
          go_wp2_with fail
          refine Cr.out.mono ?_
          rintro e w3 ⟨v, rfl, hT, hE3⟩
          obtain ⟨a3, c3, rfl, hT3⟩ := hT.table
          rw [show (fitR n m (F k) x).length = n from mk_len _ _ _]
          have HT3 := Lib.hid hT3
          clear hT hT3
          go_wp2_with fail
          go_roundw
          case rel => exact ⟨1, by omega, by go_num, hE2.trans' hE3, _, _, rfl, by rw [if_neg (by omega), if_pos rfl]; exact HT3⟩
          case measure => simp [intOf]
        · by_cases h1 : q = 1
          · subst h1
            clear h0
            have hc := (HB.out.ext hE2).cellv 1 (v := .iface 89 (.slice bx m cb)) rfl
            rw [if_neg (by omega), if_pos rfl] at H2
            have Cr := Lib.hid (f68_c A2 bx n C2 cb m (fitR n m (F k) x) y wr H2.out ((fitR_ok (HN.out k) Hxb.out).weak (by omega)) (hy.ext hEr) Hyn.out (by rw [Hyn.out]; exact Hyb.out))
            rw [← Hs.out k] at Cr
            have HLk := HL.out (k + 1)
            go_wp2_with fail
            refine Cr.out.mono ?_
            rintro e w3 ⟨v, rfl, hT, hE3⟩
            obtain ⟨a3, c3, rfl, hT3⟩ := hT.table
            rw [HLk]
            have HT3 := Lib.hid hT3
            clear hT hT3 HLk
            go_wp2_with fail
            go_roundw
            case rel => exact ⟨2, by omega, by go_num, hE2.trans' hE3, _, _, rfl, by rw [if_neg (by omega), if_neg (by omega)]; exact HT3⟩
            case measure => simp [intOf]
          · obtain rfl : q = 2 := by omega
            clear h0 h1
            rw [if_neg (by omega), if_neg (by omega)] at H2
            go_wp2_with fail
            go_roundw
            case rel => exact ⟨k + 1, by omega, by go_num, hEr, _, _, rfl, H2⟩
            case measure => simp [intOf]; omega
    · obtain rfl : k = R := by omega
      have hLk := HL.out k
      go_wp2_with fail
      go_ret
      exact ⟨A, C, by rw [hLk]; rfl, H.out, hE⟩
set_option maxRecDepth 20000 in
set_option maxHeartbeats 8000000 in
theorem f73_c (a ax bx : Option Addr) (n c m ca cb R : Nat) (t : Tbl) (x y : List Int) (w : World) (hl : Table w a t) (H0 : TOk n m 0 1000000 t) (hx : Ints w ax x) (hxn : x.length = n) (hxb : ∀ j, j < n → 0 ≤ gi x j ∧ gi x j ≤ 30)
    (hy : Ints w bx y) (hyn : y.length = m) (hyb : ∀ j, j < m → 0 ≤ gi y j ∧ gi y j ≤ 30) (hR : R ≤ 10) :
    Calls Try.prog 73 #[.slice a n c, .slice ax n ca, .slice bx m cb, .int .i64 (R : Int)] w (RetR (fitN n m x y t R) w) := by
  have hn5 := H0.n5
  have hm5 := H0.m5
  have HT := Lib.hid H0
  have Hxb := Lib.hid hxb
  have Hyb := Lib.hid hyb
  have Hxn := Lib.hid hxn
  have Hyn := Lib.hid hyn
  have HN := Lib.hid (fun k => fitN_ok H0 hxb hyb k)
  have HL := Lib.hid (fun k => (fitN_ok H0 hxb hyb k).len)
  have Hs : Hid (∀ k, fitN n m x y t (k + 1) = fitC n m (fitR n m (fitN n m x y t k) x) y) := Lib.hid (fun k => rfl)
  have h0 : fitN n m x y t 0 = t := rfl
  rw [← h0] at hl
  clear H0 hxb hyb hxn hyn h0
  generalize fitN n m x y t = F at *
  go_enter Try.func73, Try.ntmps73
  go_wp2_with fail
  go_loopw [0, 9] (fun u i wr => ∃ k : Nat, k ≤ R ∧ i = .int .i64 k ∧ Ext w wr ∧ ∃ A C, u = .slice A n C ∧ Hid (Table wr A (F k))) (fun _ i _ => R - (intOf i).toNat)
  case atStart => exact ⟨0, Nat.zero_le _, rfl, Below.refl _ _, _, _, rfl, hl⟩
  case round =>
    obtain ⟨k, hk, rfl, hE, A, C, rfl, H⟩ := hrel
    by_cases hlt : k < R
    · have HR := Lib.hid (fitR_ok (HN.out k) Hxb.out)
      have C1 := Lib.hid (f70_c A ax n C ca m (F k) x wr H.out (HN.out k) (hx.ext hE) Hxn.out (by rw [Hxn.out]; exact Hxb.out))
      go_wp2_with fail
      refine C1.out.mono ?_
      rintro e w1 ⟨v, rfl, hT, hE1⟩
      obtain ⟨a1, c1, rfl, hT1⟩ := hT.table
      rw [show (fitR n m (F k) x).length = n from mk_len _ _ _]
      have C2 := Lib.hid (f71_c a1 n c1 m _ w1 hT1 (mk_len _ _ _) HR.out.n1 HR.out.n5 HR.out.m5 HR.out.cols)
      have hE1 := hE.trans' hE1
      clear hT hT1 C1
      go_wp2_with fail
      refine C2.out.mono ?_
      rintro e w2 ⟨v, rfl, hT, hE2⟩
      obtain ⟨a2, c2, rfl, hT2⟩ := hT.table
      rw [show (turnT n m (fitR n m (F k) x)).length = m from mk_len _ _ _]
      have hE2 := hE1.trans' hE2
      have C3 := Lib.hid (f70_c a2 bx m c2 cb n _ y w2 hT2 ((turn_ok HR.out).weak (by omega)) (hy.ext hE2) Hyn.out (by rw [Hyn.out]; exact Hyb.out))
      clear hT hT2 C2
      go_wp2_with fail
      refine C3.out.mono ?_
      rintro e w3 ⟨v, rfl, hT, hE3⟩
      obtain ⟨a3, c3, rfl, hT3⟩ := hT.table
      rw [show (fitR m n (turnT n m (fitR n m (F k) x)) y).length = m from mk_len _ _ _]
      have hE3 := hE2.trans' hE3
      have C4 := f71_c a3 m c3 n _ w3 hT3 (mk_len _ _ _) HR.out.m1 HR.out.m5 HR.out.n5 (fun i hi => mk_cols _ hi)
      rw [turn_fit HR.out, ← Hs.out k] at C4
      have C4 := Lib.hid C4
      have HLk := HL.out (k + 1)
      clear hT hT3 C3
      go_wp2_with fail
      refine C4.out.mono ?_
      rintro e w4 ⟨v, rfl, hT, hE4⟩
      obtain ⟨a4, c4, rfl, hT4⟩ := hT.table
      rw [HLk]
      have HT4 := Lib.hid hT4
      clear hT hT4 HLk C4
      go_wp2_with fail
      go_roundw
      case rel => exact ⟨k + 1, by omega, by go_num, hE3.trans' hE4, _, _, rfl, HT4⟩
      case measure => simp [intOf]; omega
    · obtain rfl : k = R := by omega
      have hLk := HL.out k
      go_wp2_with fail
      go_ret
      exact ⟨A, C, by rw [hLk]; rfl, H.out, hE⟩

/-! ### Fit -/
def fitOk (t : Tbl) (x y : List Int) (r : Int) : Bool := tabB 0 1000000 t && (massB x && (massB y && (decide (x.length = t.length) && (decide (y.length = (row t 0).length) && withinB r 1 10))))
def fitV (t : Tbl) (x y : List Int) (r : Int) : Tbl := if fitOk t x y r then fitN t.length (row t 0).length x y t r.toNat else []

set_option maxHeartbeats 8000000 in
theorem f27_c (a ax bx : Option Addr) (n c na ca nb cb : Nat) (t : Tbl) (x y : List Int) (r : Int) (w : World) (hl : Table w a t) (hn : t.length = n) (hlen : n ≤ 1000000) (hin : ∀ j, (hj : j < t.length) → t[j].length ≤ 1000000) (hx : Ints w ax x) (hxn : x.length = na) (hxl : na ≤ 1000000) (hy : Ints w bx y) (hyn : y.length = nb) (hyl : nb ≤ 1000000) :
    Calls Try.prog 27 #[.slice a n c, .slice ax na ca, .slice bx nb cb, .int .i64 r] w (RetRE (fitV t x y r) (errOf (fitOk t x y r)) w) := by
  have C1 := f17_c a n c t w hl hn hlen hin
  have C2 := fun W (h : Ext w W) => f66_c ax na ca x W (hx.ext h) hxn hxl
  have C3 := fun W (h : Ext w W) => f66_c bx nb cb y W (hy.ext h) hyn hyl
  unfold valT at C1
  unfold valM at C2 C3
  have bad : fitOk t x y r = false → fitV t x y r = [] ∧ errOf (fitOk t x y r) = 1 := fun h => ⟨by unfold fitV; rw [h]; rfl, by rw [h]; rfl⟩
  have two := fun W (h : Ext w W) => 0
  clear two
  cases hv : (tabB 0 1000000 t && (massB x && massB y))
  · have hr : orL [errOf (tabB 0 1000000 t), errOf (massB x), errOf (massB y)] = 1 := by
      revert hv
      cases tabB 0 1000000 t <;> cases massB x <;> cases massB y <;> simp [orL, errOf]
    have hk : fitOk t x y r = false := by
      unfold fitOk; revert hv
      cases tabB 0 1000000 t <;> cases massB x <;> cases massB y <;> simp
    rw [(bad hk).1, (bad hk).2]
    have C1 := Lib.hid C1
    have C2 := Lib.hid C2
    have C3 := Lib.hid C3
    have Hr := Lib.hid hr
    clear hv hk bad hr
    generalize errOf (tabB 0 1000000 t) = e1 at *
    generalize errOf (massB x) = e2 at *
    generalize errOf (massB y) = e3 at *
    go_enter Try.func27, Try.ntmps27
    go_wp2_with fail
    refine C1.out.mono ?_
    rintro e w1 ⟨rfl, hE1⟩
    go_wp2_with fail
    refine (C2.out _ hE1).mono ?_
    rintro e w' ⟨rfl, rfl⟩
    go_wp2_with fail
    refine (C3.out _ hE1).mono ?_
    rintro e w' ⟨rfl, rfl⟩
    go_wp2_with fail
    refine (f55_r 1 _ _ _ [e1, e2, e3] _ (ints_new3 _ _ _ _ _ _ rfl) rfl (by simp) Hr.out).mono ?_
    rintro e w' ⟨rfl, rfl⟩
    go_wp2_with fail
    go_ret2
    exact retRE_nil (hE1.trans' (ext_alloc _ _))
  have h1 : tabB 0 1000000 t = true := by revert hv; cases tabB 0 1000000 t <;> simp
  have h2 : massB x = true := by revert hv; cases massB x <;> simp
  have h3 : massB y = true := by revert hv; cases massB y <;> simp
  clear hv
  rw [h1] at C1
  rw [h2] at C2
  rw [h3] at C3
  rw [show errOf true = 0 from rfl] at C1 C2 C3
  have C1 := Lib.hid C1
  have C2 := Lib.hid C2
  have C3 := Lib.hid C3
  have H0 := tabB_ok h1
  have hxb := (massB_ok h2).2.2
  have hyb := (massB_ok h3).2.2
  have hx5 := (massB_ok h2).2.1
  have hy5 := (massB_ok h3).2.1
  have hn1 := H0.n1
  have hr5 := H0.m5
  obtain ⟨b0, o0, a0, c0, e0, hb0, hc0, hI0⟩ := hl 0 (by omega)
  subst e0
  rw [← row_at (by omega)] at hc0
  simp only [Nat.add_zero] at hc0
  have HT := Lib.hid H0
  have Hxb := Lib.hid hxb
  have Hyb := Lib.hid hyb
  have hfo : fitOk t x y r = (decide (x.length = t.length) && (decide (y.length = (row t 0).length) && withinB r 1 10)) := by unfold fitOk; rw [h1, h2, h3]; rfl
  have hfv : fitOk t x y r = true → fitV t x y r = fitN t.length (row t 0).length x y t r.toNat := fun h => by unfold fitV; rw [if_pos h]
  subst hn hxn hyn
  clear hI0 H0 hxb hyb h1 h2 h3
  by_cases g0 : x.length = t.length
  case neg =>
    have hk : fitOk t x y r = false := by rw [hfo]; simp [g0]
    rw [(bad hk).1, (bad hk).2]
    generalize (row t 0).length = M at *
    have d4 : (((x.length : Nat) : Int) != ((t.length : Nat) : Int)) = true := by simp; omega
    clear bad hk hfo hfv g0
    go_enter Try.func27, Try.ntmps27
    go_wp2_with fail
    refine C1.out.mono ?_
    rintro e w1 ⟨rfl, hE1⟩
    go_wp2_with fail
    refine (C2.out _ hE1).mono ?_
    rintro e w' ⟨rfl, rfl⟩
    go_wp2_with fail
    refine (C3.out _ hE1).mono ?_
    rintro e w' ⟨rfl, rfl⟩
    go_wp2_with fail
    refine (f55_r 0 _ _ _ [0, 0, 0] _ (ints_new3 _ _ _ _ _ _ rfl) rfl (by simp) rfl).mono ?_
    rintro e w' ⟨rfl, rfl⟩
    have hE2 := hE1.trans' (ext_alloc _ (.cells #[.int .i64 0, .int .i64 0, .int .i64 0] 25))
    have hc2 := (hE2.cell' hb0).trans hc0
    go_wp2_with fail
    go_ret2
    exact retRE_nil hE2
  by_cases g1 : y.length = (row t 0).length
  case neg =>
    have hk : fitOk t x y r = false := by rw [hfo]; simp [g0, g1]
    rw [(bad hk).1, (bad hk).2]
    generalize (row t 0).length = M at *
    have d4 : (((x.length : Nat) : Int) != ((t.length : Nat) : Int)) = false := by simp; omega
    have d5 : (((y.length : Nat) : Int) != ((M : Nat) : Int)) = true := by simp; omega
    clear bad hk hfo hfv g0 g1
    go_enter Try.func27, Try.ntmps27
    go_wp2_with fail
    refine C1.out.mono ?_
    rintro e w1 ⟨rfl, hE1⟩
    go_wp2_with fail
    refine (C2.out _ hE1).mono ?_
    rintro e w' ⟨rfl, rfl⟩
    go_wp2_with fail
    refine (C3.out _ hE1).mono ?_
    rintro e w' ⟨rfl, rfl⟩
    go_wp2_with fail
    refine (f55_r 0 _ _ _ [0, 0, 0] _ (ints_new3 _ _ _ _ _ _ rfl) rfl (by simp) rfl).mono ?_
    rintro e w' ⟨rfl, rfl⟩
    have hE2 := hE1.trans' (ext_alloc _ (.cells #[.int .i64 0, .int .i64 0, .int .i64 0] 25))
    have hc2 := (hE2.cell' hb0).trans hc0
    go_wp2_with fail
    go_ret2
    exact retRE_nil hE2
  by_cases g2 : withinB r 1 10 = true
  case neg =>
    have hk : fitOk t x y r = false := by rw [hfo]; simp [g2]
    rw [(bad hk).1, (bad hk).2]
    have C4 := Lib.hid (fun W => f62_c r 1 10 W)
    rw [show withinB r 1 10 = false by simpa using g2] at C4
    generalize (row t 0).length = M at *
    have d4 : (((x.length : Nat) : Int) != ((t.length : Nat) : Int)) = false := by simp; omega
    have d5 : (((y.length : Nat) : Int) != ((M : Nat) : Int)) = false := by simp; omega
    clear bad hk hfo hfv g0 g1 g2
    go_enter Try.func27, Try.ntmps27
    go_wp2_with fail
    refine C1.out.mono ?_
    rintro e w1 ⟨rfl, hE1⟩
    go_wp2_with fail
    refine (C2.out _ hE1).mono ?_
    rintro e w' ⟨rfl, rfl⟩
    go_wp2_with fail
    refine (C3.out _ hE1).mono ?_
    rintro e w' ⟨rfl, rfl⟩
    go_wp2_with fail
    refine (f55_r 0 _ _ _ [0, 0, 0] _ (ints_new3 _ _ _ _ _ _ rfl) rfl (by simp) rfl).mono ?_
    rintro e w' ⟨rfl, rfl⟩
    have hE2 := hE1.trans' (ext_alloc _ (.cells #[.int .i64 0, .int .i64 0, .int .i64 0] 25))
    have hc2 := (hE2.cell' hb0).trans hc0
    go_wp2_with fail
    refine (C4.out _).mono ?_
    rintro e w' ⟨rfl, rfl⟩
    go_wp2_with fail
    go_ret2
    exact retRE_nil hE2
  have hk : fitOk t x y r = true := by rw [hfo, g2]; simp [g0, g1]
  rw [hfv hk, hk, show errOf true = 0 from rfl]
  have C4 := Lib.hid (fun W => f62_c r 1 10 W)
  rw [g2] at C4
  obtain ⟨hr1, hr2⟩ := withinB_iff.1 g2
  obtain ⟨R, rfl⟩ := Int.eq_ofNat_of_zero_le (a := r) (by omega)
  rw [Int.toNat_natCast]
  have hNl := (fitN_ok HT.out (by rw [← g0]; exact Hxb.out) (by rw [← g1]; exact Hyb.out) R).len
  generalize (row t 0).length = M at *
  have d4 : (((x.length : Nat) : Int) != ((t.length : Nat) : Int)) = false := by simp; omega
  have d5 : (((y.length : Nat) : Int) != ((M : Nat) : Int)) = false := by simp; omega
  have G0 := Lib.hid g0
  have G1 := Lib.hid g1
  have HNl := Lib.hid hNl
  clear bad hk hfo hfv g0 g1 g2 hNl
  go_enter Try.func27, Try.ntmps27
  go_wp2_with fail
  refine C1.out.mono ?_
  rintro e w1 ⟨rfl, hE1⟩
  go_wp2_with fail
  refine (C2.out _ hE1).mono ?_
  rintro e w' ⟨rfl, rfl⟩
  go_wp2_with fail
  refine (C3.out _ hE1).mono ?_
  rintro e w' ⟨rfl, rfl⟩
  go_wp2_with fail
  refine (f55_r 0 _ _ _ [0, 0, 0] _ (ints_new3 _ _ _ _ _ _ rfl) rfl (by simp) rfl).mono ?_
  rintro e w' ⟨rfl, rfl⟩
  have hE2 := hE1.trans' (ext_alloc _ (.cells #[.int .i64 0, .int .i64 0, .int .i64 0] 25))
  have hc2 := (hE2.cell' hb0).trans hc0
  go_wp2_with fail
  refine (C4.out _).mono ?_
  rintro e w' ⟨rfl, rfl⟩
  go_wp2_with fail
  rw [G0.out, G1.out]
  refine (f72_c _ ax bx t.length c M ca cb R t x y _ (hl.ext hE2) HT.out (hx.ext hE2) G0.out (by rw [← G0.out]; exact Hxb.out) (hy.ext hE2) G1.out (by rw [← G1.out]; exact Hyb.out) (by omega)).mono ?_
  rintro e w3 ⟨a3, c3, rfl, hT, hE3⟩
  rw [HNl.out]
  have hR := Lib.hid (show RetRE (fitN t.length M x y t R) 0 w (.returned (.tuple #[.slice a3 t.length c3, .int .i64 0])) w3 from ⟨a3, c3, by rw [HNl.out], hT, hE2.trans' hE3⟩)
  clear hT
  go_wp2_with fail
  go_ret2
  exact hR.out

set_option maxHeartbeats 8000000 in
theorem f28_c (a ax bx : Option Addr) (n c na ca nb cb : Nat) (t : Tbl) (x y : List Int) (r : Int) (w : World) (hl : Table w a t) (hn : t.length = n) (hlen : n ≤ 1000000) (hin : ∀ j, (hj : j < t.length) → t[j].length ≤ 1000000) (hx : Ints w ax x) (hxn : x.length = na) (hxl : na ≤ 1000000) (hy : Ints w bx y) (hyn : y.length = nb) (hyl : nb ≤ 1000000) :
    Calls Try.prog 28 #[.slice a n c, .slice ax na ca, .slice bx nb cb, .int .i64 r] w (RetRE (fitV t x y r) (errOf (fitOk t x y r)) w) := by
  have C1 := f18_c a n c t w hl hn hlen hin
  have C2 := fun W (h : Ext w W) => f69_c ax na ca x W (hx.ext h) hxn hxl
  have C3 := fun W (h : Ext w W) => f69_c bx nb cb y W (hy.ext h) hyn hyl
  unfold valT at C1
  unfold valM at C2 C3
  have bad : fitOk t x y r = false → fitV t x y r = [] ∧ errOf (fitOk t x y r) = 1 := fun h => ⟨by unfold fitV; rw [h]; rfl, by rw [h]; rfl⟩
  have two := fun W (h : Ext w W) => 0
  clear two
  cases h1 : tabB 0 1000000 t
  · have hk : fitOk t x y r = false := by unfold fitOk; rw [h1]; rfl
    rw [(bad hk).1, (bad hk).2]
    rw [h1] at C1
    rw [show errOf false = 1 from rfl] at C1
    have C1 := Lib.hid C1
    clear bad hk h1
    go_enter Try.func28, Try.ntmps28
    go_wp2_with fail
    refine C1.out.mono ?_
    rintro e w1 ⟨rfl, hE1⟩
    go_wp2_with fail
    go_ret2
    exact retRE_nil hE1
  cases h2 : massB x
  · have hk : fitOk t x y r = false := by unfold fitOk; rw [h1, h2]; rfl
    rw [(bad hk).1, (bad hk).2]
    rw [h1] at C1
    rw [show errOf true = 0 from rfl] at C1
    have C1 := Lib.hid C1
    rw [h2] at C2
    rw [show errOf false = 1 from rfl] at C2
    have C2 := Lib.hid C2
    clear bad hk h1 h2
    go_enter Try.func28, Try.ntmps28
    go_wp2_with fail
    refine C1.out.mono ?_
    rintro e w1 ⟨rfl, hE1⟩
    go_wp2_with fail
    refine (C2.out _ hE1).mono ?_
    rintro e w' ⟨rfl, rfl⟩
    go_wp2_with fail
    go_ret2
    exact retRE_nil hE1
  cases h3 : massB y
  · have hk : fitOk t x y r = false := by unfold fitOk; rw [h1, h2, h3]; rfl
    rw [(bad hk).1, (bad hk).2]
    rw [h1] at C1
    rw [show errOf true = 0 from rfl] at C1
    have C1 := Lib.hid C1
    rw [h2] at C2
    rw [show errOf true = 0 from rfl] at C2
    have C2 := Lib.hid C2
    rw [h3] at C3
    rw [show errOf false = 1 from rfl] at C3
    have C3 := Lib.hid C3
    clear bad hk h1 h2 h3
    go_enter Try.func28, Try.ntmps28
    go_wp2_with fail
    refine C1.out.mono ?_
    rintro e w1 ⟨rfl, hE1⟩
    go_wp2_with fail
    refine (C2.out _ hE1).mono ?_
    rintro e w' ⟨rfl, rfl⟩
    go_wp2_with fail
    refine (C3.out _ hE1).mono ?_
    rintro e w' ⟨rfl, rfl⟩
    go_wp2_with fail
    go_ret2
    exact retRE_nil hE1
  rw [h1] at C1
  rw [h2] at C2
  rw [h3] at C3
  rw [show errOf true = 0 from rfl] at C1 C2 C3
  have C1 := Lib.hid C1
  have C2 := Lib.hid C2
  have C3 := Lib.hid C3
  have H0 := tabB_ok h1
  have hxb := (massB_ok h2).2.2
  have hyb := (massB_ok h3).2.2
  have hx5 := (massB_ok h2).2.1
  have hy5 := (massB_ok h3).2.1
  have hn1 := H0.n1
  have hr5 := H0.m5
  obtain ⟨b0, o0, a0, c0, e0, hb0, hc0, hI0⟩ := hl 0 (by omega)
  subst e0
  rw [← row_at (by omega)] at hc0
  simp only [Nat.add_zero] at hc0
  have HT := Lib.hid H0
  have Hxb := Lib.hid hxb
  have Hyb := Lib.hid hyb
  have hfo : fitOk t x y r = (decide (x.length = t.length) && (decide (y.length = (row t 0).length) && withinB r 1 10)) := by unfold fitOk; rw [h1, h2, h3]; rfl
  have hfv : fitOk t x y r = true → fitV t x y r = fitN t.length (row t 0).length x y t r.toNat := fun h => by unfold fitV; rw [if_pos h]
  subst hn hxn hyn
  clear hI0 H0 hxb hyb h1 h2 h3
  by_cases g0 : x.length = t.length
  case neg =>
    have hk : fitOk t x y r = false := by rw [hfo]; simp [g0]
    rw [(bad hk).1, (bad hk).2]
    generalize (row t 0).length = M at *
    have d4 : (((t.length : Nat) : Int) != ((x.length : Nat) : Int)) = true := by simp; omega
    clear bad hk hfo hfv g0
    go_enter Try.func28, Try.ntmps28
    go_wp2_with fail
    refine C1.out.mono ?_
    rintro e w1 ⟨rfl, hE1⟩
    go_wp2_with fail
    refine (C2.out _ hE1).mono ?_
    rintro e w' ⟨rfl, rfl⟩
    go_wp2_with fail
    refine (C3.out _ hE1).mono ?_
    rintro e w' ⟨rfl, rfl⟩
    have hE2 := hE1
    have hc2 := (hE2.cell' hb0).trans hc0
    go_wp2_with fail
    go_ret2
    exact retRE_nil hE2
  by_cases g1 : y.length = (row t 0).length
  case neg =>
    have hk : fitOk t x y r = false := by rw [hfo]; simp [g0, g1]
    rw [(bad hk).1, (bad hk).2]
    generalize (row t 0).length = M at *
    have d4 : (((t.length : Nat) : Int) != ((x.length : Nat) : Int)) = false := by simp; omega
    have d5 : (((M : Nat) : Int) != ((y.length : Nat) : Int)) = true := by simp; omega
    clear bad hk hfo hfv g0 g1
    go_enter Try.func28, Try.ntmps28
    go_wp2_with fail
    refine C1.out.mono ?_
    rintro e w1 ⟨rfl, hE1⟩
    go_wp2_with fail
    refine (C2.out _ hE1).mono ?_
    rintro e w' ⟨rfl, rfl⟩
    go_wp2_with fail
    refine (C3.out _ hE1).mono ?_
    rintro e w' ⟨rfl, rfl⟩
    have hE2 := hE1
    have hc2 := (hE2.cell' hb0).trans hc0
    go_wp2_with fail
    go_ret2
    exact retRE_nil hE2
  by_cases g2 : withinB r 1 10 = true
  case neg =>
    have hk : fitOk t x y r = false := by rw [hfo]; simp [g2]
    rw [(bad hk).1, (bad hk).2]
    have C4 := Lib.hid (fun W => f60_c r 1 10 W)
    rw [show withinB r 1 10 = false by simpa using g2] at C4
    generalize (row t 0).length = M at *
    have d4 : (((t.length : Nat) : Int) != ((x.length : Nat) : Int)) = false := by simp; omega
    have d5 : (((M : Nat) : Int) != ((y.length : Nat) : Int)) = false := by simp; omega
    clear bad hk hfo hfv g0 g1 g2
    go_enter Try.func28, Try.ntmps28
    go_wp2_with fail
    refine C1.out.mono ?_
    rintro e w1 ⟨rfl, hE1⟩
    go_wp2_with fail
    refine (C2.out _ hE1).mono ?_
    rintro e w' ⟨rfl, rfl⟩
    go_wp2_with fail
    refine (C3.out _ hE1).mono ?_
    rintro e w' ⟨rfl, rfl⟩
    have hE2 := hE1
    have hc2 := (hE2.cell' hb0).trans hc0
    go_wp2_with fail
    refine (C4.out _).mono ?_
    rintro e w' ⟨rfl, rfl⟩
    go_wp2_with fail
    go_ret2
    exact retRE_nil hE2
  have hk : fitOk t x y r = true := by rw [hfo, g2]; simp [g0, g1]
  rw [hfv hk, hk, show errOf true = 0 from rfl]
  have C4 := Lib.hid (fun W => f60_c r 1 10 W)
  rw [g2] at C4
  obtain ⟨hr1, hr2⟩ := withinB_iff.1 g2
  obtain ⟨R, rfl⟩ := Int.eq_ofNat_of_zero_le (a := r) (by omega)
  rw [Int.toNat_natCast]
  have hNl := (fitN_ok HT.out (by rw [← g0]; exact Hxb.out) (by rw [← g1]; exact Hyb.out) R).len
  generalize (row t 0).length = M at *
  have d4 : (((t.length : Nat) : Int) != ((x.length : Nat) : Int)) = false := by simp; omega
  have d5 : (((M : Nat) : Int) != ((y.length : Nat) : Int)) = false := by simp; omega
  have G0 := Lib.hid g0
  have G1 := Lib.hid g1
  have HNl := Lib.hid hNl
  clear bad hk hfo hfv g0 g1 g2 hNl
  go_enter Try.func28, Try.ntmps28
  go_wp2_with fail
  refine C1.out.mono ?_
  rintro e w1 ⟨rfl, hE1⟩
  go_wp2_with fail
  refine (C2.out _ hE1).mono ?_
  rintro e w' ⟨rfl, rfl⟩
  go_wp2_with fail
  refine (C3.out _ hE1).mono ?_
  rintro e w' ⟨rfl, rfl⟩
  have hE2 := hE1
  have hc2 := (hE2.cell' hb0).trans hc0
  go_wp2_with fail
  refine (C4.out _).mono ?_
  rintro e w' ⟨rfl, rfl⟩
  go_wp2_with fail
  rw [G0.out, G1.out]
  refine (f73_c _ ax bx t.length c M ca cb R t x y _ (hl.ext hE2) HT.out (hx.ext hE2) G0.out (by rw [← G0.out]; exact Hxb.out) (hy.ext hE2) G1.out (by rw [← G1.out]; exact Hyb.out) (by omega)).mono ?_
  rintro e w3 ⟨a3, c3, rfl, hT, hE3⟩
  rw [HNl.out]
  have hR := Lib.hid (show RetRE (fitN t.length M x y t R) 0 w (.returned (.tuple #[.slice a3 t.length c3, .int .i64 0])) w3 from ⟨a3, c3, by rw [HNl.out], hT, hE2.trans' hE3⟩)
  clear hT
  go_wp2_with fail
  go_ret2
  exact hR.out

end Go.Proofs.Ytaidoaggmllcfaa
