/- Contracts of price: prices checked, and what they are worth. -/
import Derived.Test.YtfhgnmijigdlmaaTr5
namespace Go.Proofs.Ytfhgnmijigdlmaa.Tr
open Go.RowKit
attribute [local go_sem] GW.cell

/-- prices are in range for a cost table -/
def prB (t : Tbl) (U V : List Int) : Bool := rowOk t.length (-1000) 1000 U && rowOk (row t 0).length (-1000) 1000 V
/-- no two prices add up to more than the cost -/
def feasAt (t : Tbl) (U V : List Int) (i j : Nat) : Bool := decide (gi U i + gi V j ≤ tg t i j)
def feasB (t : Tbl) (U V : List Int) : Bool := (List.range t.length).all fun i => (List.range (row t 0).length).all fun j => feasAt t U V i j
theorem feasB_yes {t : Tbl} {U V : List Int} (h : ∀ i j, i < t.length → j < (row t 0).length → feasAt t U V i j = true) : feasB t U V = true := by
  unfold feasB
  rw [List.all_eq_true]
  intro i hi
  rw [List.all_eq_true]
  intro j hj
  exact h i j (List.mem_range.1 hi) (List.mem_range.1 hj)
theorem feasB_no {t : Tbl} {U V : List Int} {i j : Nat} (hi : i < t.length) (hj : j < (row t 0).length) (h : feasAt t U V i j = false) : feasB t U V = false := by
  rw [← Bool.not_eq_true]
  intro h2
  unfold feasB at h2
  rw [List.all_eq_true] at h2
  have h3 := h2 i (List.mem_range.2 hi)
  rw [List.all_eq_true] at h3
  rw [h3 j (List.mem_range.2 hj)] at h
  cases h
theorem feasB_at {t : Tbl} {U V : List Int} (h : feasB t U V = true) {i j : Nat} (hi : i < t.length) (hj : j < (row t 0).length) : gi U i + gi V j ≤ tg t i j := by
  unfold feasB at h
  rw [List.all_eq_true] at h
  have h3 := h i (List.mem_range.2 hi)
  rw [List.all_eq_true] at h3
  exact of_decide_eq_true (h3 j (List.mem_range.2 hj))
set_option maxHeartbeats 4000000 in
theorem f127_c (a ua va : Option Addr) (n c un uc vn vc : Nat) (t : Tbl) (U V : List Int) (w : World) (hl : Table w a t) (hn : t.length = n) (h1 : 1 ≤ n) (hU : Ints w ua U) (hun : U.length = un) (hul : un ≤ 1000000) (hV : Ints w va V) (hvn : V.length = vn) (hvl : vn ≤ 1000000) :
    Calls Try.prog 127 #[.slice a n c, .agg #[.slice ua un uc, .slice va vn vc]] w fun e w' => e = .returned (.bool (prB t U V)) ∧ Ext w w' := by
  obtain ⟨b0, o0, a0, c0, rfl, hb0, hc0, -⟩ := hl 0 (by omega)
  rw [← row_at (by omega)] at hc0
  simp only [Nat.add_zero] at hc0
  have hE0 := ext_alloc w (.cells #[.slice ua un uc, .slice va vn vc] 77)
  have HB := Lib.hid (BlkC.new w #[.slice ua un uc, .slice va vn vc] 77)
  have g0 := HB.out.cellv 0 (v := .slice ua un uc) rfl
  have g1 := HB.out.cellv 1 (v := .slice va vn vc) rfl
  have hz := HB.out.lt
  have hcw := (hE0.cell' hb0).trans hc0
  have hbw : b0 < (w.alloc (.cells #[.slice ua un uc, .slice va vn vc] 77)).heap.size := by have := hE0.size; omega
  unfold prB
  rw [hn]
  have C1 := fun W (h : Ext w W) => f123_c ua un uc n (-1000) 1000 U W (hU.ext h) hun hul
  have C2 := fun W (h : Ext w W) => f123_c va vn vc (row t 0).length (-1000) 1000 V W (hV.ext h) hvn hvl
  have hn0 : 0 < n := h1
  clear hU hV hl hc0 hn
  generalize (row t 0).length = M at *
  cases e1 : rowOk n (-1000) 1000 U
  · rw [e1] at C1
    have C1 := Lib.hid C1
    rw [Bool.false_and]
    clear e1 C2
    go_enter Try.func127, Try.ntmps127
    go_wp2_with fail
    generalize w.alloc (.cells #[.slice ua un uc, .slice va vn vc] 77) = w0 at *
    refine wp_region_ext (by kernel_rfl) (by kernel_rfl) ?_
    repeat (go_big_quiet_step (fail))
    go_big_quiet_step ((go_at_call 123; refine quiet_ext (C1.out _ ?_); exact hE0.trans' (GW.ext _)))
    repeat (go_big_quiet_step (fail))
    refine wpQuiet_nil ?_
    intro w1 hX1
    go_wp2_with fail
    go_ret
    exact ⟨rfl, hE0.trans' hX1⟩
  · rw [e1] at C1
    rw [Bool.true_and]
    have C1 := Lib.hid C1
    have C2 := Lib.hid C2
    clear e1
    generalize rowOk M (-1000) 1000 V = r2 at *
    go_enter Try.func127, Try.ntmps127
    go_wp2_with fail
    generalize w.alloc (.cells #[.slice ua un uc, .slice va vn vc] 77) = w0 at *
    refine wp_region_ext (by kernel_rfl) (by kernel_rfl) ?_
    repeat (go_big_quiet_step (fail))
    go_big_quiet_step ((go_at_call 123; refine quiet_ext (C1.out _ ?_); exact hE0.trans' (GW.ext _)))
    repeat (go_big_quiet_step (fail))
    go_big_quiet_step ((go_at_call 123; refine quiet_ext (C2.out _ ?_); exact hE0.trans' (GW.ext _)))
    repeat (go_big_quiet_step (fail))
    refine wpQuiet_nil ?_
    intro w1 hX1
    go_wp2_with fail
    go_ret
    exact ⟨rfl, hE0.trans' hX1⟩
/-- what a call hands back that makes a number -/
def RetN (v : Int) (w : World) (e : Ending) (w' : World) : Prop := e = .returned (.int .i64 v) ∧ Ext w w'
/-- why prices do not hold -/
def prcErr (t : Tbl) (U V : List Int) : Int := if tabB 0 99 t && prB t U V then (if feasB t U V then 0 else 7) else 1
theorem rowOk_len' {m : Nat} {lo hi : Int} {l : List Int} (h : rowOk m lo hi l = true) : l.length = m ∧ ∀ j, j < m → lo ≤ gi l j ∧ gi l j ≤ hi := by
  simp only [rowOk, Bool.and_eq_true, decide_eq_true_eq] at h
  exact ⟨h.1, fun j hj => okRow_at h.2 (by omega)⟩
theorem prB_ok {t : Tbl} {U V : List Int} (h : prB t U V = true) : (U.length = t.length ∧ ∀ j, j < t.length → -1000 ≤ gi U j ∧ gi U j ≤ 1000) ∧ V.length = (row t 0).length ∧ ∀ j, j < (row t 0).length → -1000 ≤ gi V j ∧ gi V j ≤ 1000 := by
  unfold prB at h
  rw [Bool.and_eq_true] at h
  exact ⟨rowOk_len' h.1, rowOk_len' h.2⟩
set_option maxRecDepth 20000 in
set_option maxHeartbeats 8000000 in
theorem f108_c (a ua va : Option Addr) (n c un uc vn vc : Nat) (t : Tbl) (U V : List Int) (w : World) (hl : Table w a t) (hn : t.length = n) (hT : TOk n (row t 0).length 0 99 t) (hU : Ints w ua U) (hun : U.length = un) (hul : un ≤ 1000000) (hV : Ints w va V) (hvn : V.length = vn) (hvl : vn ≤ 1000000) :
    Calls Try.prog 108 #[.slice a n c, .agg #[.slice ua un uc, .slice va vn vc]] w (RetN (prcErr t U V) w) := by
  subst hn
  have hE0 := ext_alloc w (.cells #[.slice ua un uc, .slice va vn vc] 77)
  have HB := Lib.hid (BlkC.new w #[.slice ua un uc, .slice va vn vc] 77)
  have htab := tabB_of hT
  have C1 := fun W (h : Ext w W) => f102_c a t.length c t W (hl.ext h) rfl (by have := hT.n5; omega) (fun j hj => by have h1 := hT.cols j hj; rw [row_at hj] at h1; have := hT.m5; omega)
  unfold valT at C1
  rw [htab, show errOf true = 0 from rfl] at C1
  have C1 := Lib.hid C1
  have C2 := fun W (h : Ext w W) => f127_c a ua va t.length c un uc vn vc t U V W (hl.ext h) rfl hT.n1 (hU.ext h) hun hul (hV.ext h) hvn hvl
  have hn1 := hT.n1
  have hn5 := hT.n5
  have hm1 := hT.m1
  have hm5 := hT.m5
  have HT := Lib.hid hT
  have g0 := HB.out.cellv 0 (v := .slice ua un uc) rfl
  have g1 := HB.out.cellv 1 (v := .slice va vn vc) rfl
  have hz := HB.out.lt
  have hv : prcErr t U V = if prB t U V then (if feasB t U V then 0 else 7) else 1 := by unfold prcErr; rw [htab, Bool.true_and]
  cases hp : prB t U V
  · rw [hp] at C2 hv
    have Hv := Lib.hid (show prcErr t U V = 1 from hv)
    clear hv
    have C2 := Lib.hid C2
    clear hp htab hT hU hV
    go_enter Try.func108, Try.ntmps108
    go_wp2_with fail
    generalize w.alloc (.cells #[.slice ua un uc, .slice va vn vc] 77) = w0 at *
    refine (C1.out _ hE0).mono ?_
    rintro e w1 ⟨rfl, hX1⟩
    have hE1 := hE0.trans' hX1
    have g0 := (HB.out.ext hX1).cellv 0 (v := .slice ua un uc) rfl
    have g1 := (HB.out.ext hX1).cellv 1 (v := .slice va vn vc) rfl
    have hz1 := (HB.out.ext hX1).lt
    go_wp2_with fail
    refine (C2.out _ hE1).mono ?_
    rintro e w2 ⟨rfl, hX2⟩
    go_wp2_with fail
    go_ret
    exact ⟨ret_int Hv.out.symm, hE1.trans' hX2⟩
  obtain ⟨⟨p1, p2⟩, p3, p4⟩ := prB_ok hp
  rw [hp, if_pos rfl] at hv
  have Hv0 : Hid (feasB t U V = true → prcErr t U V = 0) := Lib.hid (fun h => by rw [hv, if_pos h])
  have Hv7 : Hid (feasB t U V = false → prcErr t U V = 7) := Lib.hid (fun h => by rw [hv, h]; rfl)
  clear hv
  rw [hp] at C2
  have C2 := Lib.hid C2
  have Hp2 := Lib.hid p2
  have Hp4 := Lib.hid p4
  have HU := Lib.hid hU
  have HV := Lib.hid hV
  have Hyes := Lib.hid (feasB_yes (t := t) (U := U) (V := V))
  have Hno := Lib.hid (fun i j => @feasB_no t U V i j)
  have Hul := Lib.hid p1
  have Hvl := Lib.hid p3
  rw [hun] at Hul
  rw [hvn] at Hvl
  have hul2 : un ≤ t.length ∧ t.length ≤ un := by have := Hul.out; omega
  have hvl2 : vn ≤ (row t 0).length ∧ (row t 0).length ≤ vn := by have := Hvl.out; omega
  have Hun := Lib.hid hun
  have Hvn := Lib.hid hvn
  clear hp htab hT hU hV p1 p2 p3 p4 hun hvn
  have HM : Hid ((row t 0).length = (row t 0).length) := Lib.hid rfl
  generalize hM : (row t 0).length = M at *
  generalize hN : t.length = N at *
  have HN := Lib.hid hN
  clear hM hN
  go_enter Try.func108, Try.ntmps108
  go_wp2_with fail
  generalize w.alloc (.cells #[.slice ua un uc, .slice va vn vc] 77) = w0 at *
  refine (C1.out _ hE0).mono ?_
  rintro e w1 ⟨rfl, hX1⟩
  have hE1 := hE0.trans' hX1
  have g0 := (HB.out.ext hX1).cellv 0 (v := .slice ua un uc) rfl
  have g1 := (HB.out.ext hX1).cellv 1 (v := .slice va vn vc) rfl
  have hz1 := (HB.out.ext hX1).lt
  go_wp2_with fail
  refine (C2.out _ hE1).mono ?_
  rintro e w2 ⟨rfl, hX2⟩
  have hX2 := hX1.trans' hX2
  clear g0 g1 hz1 C1 C2
  go_wp2_with fail
  go_loopw [21] (fun i wr => ∃ p : Nat, p ≤ N ∧ i = .int .i64 p ∧ Ext w0 wr ∧ Hid (∀ i j, i < p → j < M → feasAt t U V i j = true)) (fun i _ => N - (intOf i).toNat)
  case atStart => exact ⟨0, Nat.zero_le _, rfl, hX2, Lib.hid (fun i j h => by omega)⟩
  case round =>
    obtain ⟨p, hp, rfl, hX3, HD⟩ := hrel
    by_cases hltp : p < N
    case neg =>
      obtain rfl : p = N := by omega
      have hf : feasB t U V = true := Hyes.out (fun i j hi hj => HD.out i j hi hj)
      have Hf := Lib.hid hf
      clear hf
      go_wp2_with fail
      go_ret
      exact ⟨ret_int (Hv0.out Hf.out).symm, hE0.trans' hX3⟩
    have hE3 := hE0.trans' hX3
    have hpt : p < t.length := by rw [HN.out]; exact hltp
    obtain ⟨b3, o3, a3, c3, rfl, hb3, hc3, hI3⟩ := hl p (by rw [HN.out]; exact hltp)
    have hcc := (hE3.cell' hb3).trans hc3
    have hlen3 : t[p].length = M := by have := HT.out.cols p hltp; rw [row_at (by rw [HN.out]; exact hltp)] at this; exact this
    rw [hlen3] at hcc
    have Hl3 : Hid ((row t p).length = M) := Lib.hid (HT.out.cols p hltp)
    have Hrow3 : Hid (Ints w a3 (row t p)) := Lib.hid (by rw [row_at hpt]; exact hI3)
    clear hc3 hI3 hlen3 hpt
    go_wp2_with fail
    go_loopw [28] (fun i wr => ∃ j : Nat, j ≤ M ∧ i = .int .i64 j ∧ Ext w0 wr ∧ Hid (∀ q, q < j → feasAt t U V p q = true)) (fun i _ => M - (intOf i).toNat)
    case atStart => exact ⟨0, Nat.zero_le _, rfl, hX3, Lib.hid (fun q h => by omega)⟩
    case round =>
      obtain ⟨j, hj, rfl, hX4, HD2⟩ := hrel
      by_cases hltj : j < M
      case neg =>
        obtain rfl : j = M := by omega
        go_wp2_with fail
        go_roundw
        case rel => exact ⟨p + 1, by omega, by go_num, hX4, Lib.hid (fun i q hi hq => by
          rcases Nat.lt_succ_iff_lt_or_eq.1 hi with hi | rfl
          · exact HD.out i q hi hq
          · exact HD2.out q hq)⟩
        case measure => simp [intOf]; omega
      have hE4 := hE0.trans' hX4
      obtain ⟨b5, o5, rfl, hb5, hc5⟩ := Hrow3.out.ext hE4 j (by rw [Hl3.out]; exact hltj)
      rw [← gi_at, show gi (row t p) j = tg t p j from rfl] at hc5
      obtain ⟨bu, ou, rfl, hbu, hcu⟩ := HU.out.ext hE4 p (by rw [Hun.out]; omega)
      obtain ⟨bv, ov, rfl, hbv, hcv⟩ := HV.out.ext hE4 j (by rw [Hvn.out]; omega)
      rw [← gi_at] at hcu hcv
      have bb1 := Hp2.out p hltp
      have bb2 := Hp4.out j hltj
      have bb3 := HT.out.bd p j hltp hltj
      have g0 := (HB.out.ext hX4).cellv 0 (v := .slice (some ⟨bu, ou, none⟩) un uc) rfl
      have g1 := (HB.out.ext hX4).cellv 1 (v := .slice (some ⟨bv, ov, none⟩) vn vc) rfl
      have hz4 := (HB.out.ext hX4).lt
      have Hat : Hid (feasAt t U V p j = decide (gi U p + gi V j ≤ tg t p j)) := Lib.hid rfl
      have hpu : p < un := by omega
      have hjv : j < vn := by omega
      generalize gi U p = u at *
      generalize gi V j = v at *
      generalize tg t p j = x at *
      by_cases hgt : x < u + v
      · have d1 : decide (x < u + v) = true := decide_eq_true hgt
        have hf : feasB t U V = false := Hno.out p j hltp hltj (by rw [Hat.out]; exact decide_eq_false (by omega))
        have Hf := Lib.hid hf
        clear hf hgt
        go_wp2_with fail
        refine wp_region_ext (by kernel_rfl) (by kernel_rfl) ?_
        repeat (go_big_quiet_step (fail))
        refine wpQuiet_nil ?_
        intro w5 hX5
        go_wp2_with fail
        go_ret
        exact ⟨ret_int (Hv7.out Hf.out).symm, hE4.trans' hX5⟩
      · have d1 : decide (x < u + v) = false := decide_eq_false hgt
        have hat : feasAt t U V p j = true := by rw [Hat.out]; exact decide_eq_true (by omega)
        have Hat2 := Lib.hid hat
        clear hat hgt
        go_wp2_with fail
        refine wp_region_ext (by kernel_rfl) (by kernel_rfl) ?_
        repeat (go_big_quiet_step (fail))
        refine wpQuiet_nil ?_
        intro w5 hX5
        go_wp2_with fail
        go_roundw
        case rel => exact ⟨j + 1, by omega, by go_num, hX4.trans' hX5, Lib.hid (fun q hq => by
          rcases Nat.lt_succ_iff_lt_or_eq.1 hq with hq | rfl
          · exact HD2.out q hq
          · exact Hat2.out)⟩
        case measure => simp [intOf]; omega
theorem sumMul_bd {x u : Nat → Int} (hx : ∀ i, 0 ≤ x i ∧ x i ≤ 30) {n : Nat} (hu : ∀ i, i < n → -1000 ≤ u i ∧ u i ≤ 1000) : ∀ k, k ≤ n → -(30000 * (k : Int)) ≤ sumN (fun i => x i * u i) k ∧ sumN (fun i => x i * u i) k ≤ 30000 * k
  | 0, _ => by simp [sumN]
  | k + 1, hk => by
    have h1 := sumMul_bd hx hu k (by omega)
    have h2 := hx k
    have h3 := hu k (by omega)
    have h4 : x k * u k ≤ x k * 1000 := Int.mul_le_mul_of_nonneg_left h3.2 h2.1
    have h5 : x k * (-1000) ≤ x k * u k := Int.mul_le_mul_of_nonneg_left h3.1 h2.1
    simp only [sumN]
    omega
set_option maxRecDepth 20000 in
set_option maxHeartbeats 8000000 in
theorem f109_c (ax bx ua va : Option Addr) (n m ca cb uc vc : Nat) (x y U V : List Int) (w : World) (hx : Ints w ax x) (hxn : x.length = n) (hn5 : n ≤ 5) (hy : Ints w bx y) (hyn : y.length = m) (hm5 : m ≤ 5) (hU : Ints w ua U) (hun : U.length = n) (hV : Ints w va V) (hvn : V.length = m)
    (bx1 : ∀ i, 0 ≤ gi x i ∧ gi x i ≤ 30) (by1 : ∀ i, 0 ≤ gi y i ∧ gi y i ≤ 30) (bu : ∀ i, i < n → -1000 ≤ gi U i ∧ gi U i ≤ 1000) (bv : ∀ i, i < m → -1000 ≤ gi V i ∧ gi V i ≤ 1000) :
    Calls Try.prog 109 #[.slice ax n ca, .slice bx m cb, .agg #[.slice ua n uc, .slice va m vc]] w (RetN (worthT n m (gi x) (gi y) (gi U) (gi V)) w) := by
  have hE0 := ext_alloc w (.cells #[.slice ua n uc, .slice va m vc] 77)
  have HB := Lib.hid (BlkC.new w #[.slice ua n uc, .slice va m vc] 77)
  have HX := Lib.hid hx
  have HY := Lib.hid hy
  have HU := Lib.hid hU
  have HV := Lib.hid hV
  have Hxn := Lib.hid hxn
  have Hyn := Lib.hid hyn
  have Hun := Lib.hid hun
  have Hvn := Lib.hid hvn
  have Hb1 := Lib.hid bx1
  have Hb2 := Lib.hid by1
  have Hb3 := Lib.hid bu
  have Hb4 := Lib.hid bv
  have HS1 := Lib.hid (sumMul_bd bx1 bu)
  have HS2 := Lib.hid (sumMul_bd by1 bv)
  clear hx hy hU hV hxn hyn hun hvn bx1 by1 bu bv
  go_enter Try.func109, Try.ntmps109
  go_wp2_with fail
  generalize w.alloc (.cells #[.slice ua n uc, .slice va m vc] 77) = w0 at *
  go_loopw [7, 14] (fun s i wr => ∃ k : Nat, k ≤ n ∧ i = .int .i64 k ∧ s = .int .i64 (sumN (fun i => gi x i * gi U i) k) ∧ Ext w0 wr) (fun _ i _ => n - (intOf i).toNat)
  case atStart => exact ⟨0, Nat.zero_le _, rfl, rfl, Below.refl _ _⟩
  case round =>
    obtain ⟨k, hk, rfl, rfl, hX⟩ := hrel
    by_cases hlt : k < n
    case pos =>
      have hE := hE0.trans' hX
      obtain ⟨b1, o1, rfl, hb1, hc1⟩ := HX.out.ext hE k (by rw [Hxn.out]; exact hlt)
      obtain ⟨b2, o2, rfl, hb2, hc2⟩ := HU.out.ext hE k (by rw [Hun.out]; exact hlt)
      rw [← gi_at] at hc1 hc2
      have g0 := (HB.out.ext hX).cellv 0 (v := .slice (some ⟨b2, o2, none⟩) n uc) rfl
      have hz := (HB.out.ext hX).lt
      have h1 := HS1.out k (by omega)
      have h2 := HS1.out (k + 1) (by omega)
      have h3 := Hb1.out k
      have h4 := Hb3.out k hlt
      have h5 : -30000 ≤ gi x k * gi U k ∧ gi x k * gi U k ≤ 30000 := by
        have h6 : gi x k * gi U k ≤ gi x k * 1000 := Int.mul_le_mul_of_nonneg_left h4.2 h3.1
        have h7 : gi x k * (-1000) ≤ gi x k * gi U k := Int.mul_le_mul_of_nonneg_left h4.1 h3.1
        omega
      have Hs : Hid (sumN (fun i => gi x i * gi U i) (k + 1) = sumN (fun i => gi x i * gi U i) k + gi x k * gi U k) := Lib.hid rfl
      clear h2
      generalize sumN (fun i => gi x i * gi U i) k = S at *
      generalize gi x k = p at *
      generalize gi U k = q at *
      go_wp2_with fail
      go_roundw
      case rel => exact ⟨k + 1, by omega, by go_num, by rw [Hs.out], hX⟩
      case measure => simp [intOf]; omega
    obtain rfl : n = k := by omega
    have h0 := HS1.out n (Nat.le_refl _)
    have Hw : Hid (worthT n m (gi x) (gi y) (gi U) (gi V) = sumN (fun i => gi x i * gi U i) n + sumN (fun j => gi y j * gi V j) m) := Lib.hid rfl
    generalize sumN (fun i => gi x i * gi U i) n = S1 at *
    generalize worthT n m (gi x) (gi y) (gi U) (gi V) = WT at *
    go_wp2_with fail
    go_loopw [7, 31] (fun s i wr => ∃ k : Nat, k ≤ m ∧ i = .int .i64 k ∧ s = .int .i64 (S1 + sumN (fun j => gi y j * gi V j) k) ∧ Ext w0 wr) (fun _ i _ => m - (intOf i).toNat)
    case atStart => exact ⟨0, Nat.zero_le _, rfl, by simp [sumN], hX⟩
    case round =>
      obtain ⟨k, hk, rfl, rfl, hX⟩ := hrel
      by_cases hlt : k < m
      case pos =>
        have hE := hE0.trans' hX
        obtain ⟨b1, o1, rfl, hb1, hc1⟩ := HY.out.ext hE k (by rw [Hyn.out]; exact hlt)
        obtain ⟨b2, o2, rfl, hb2, hc2⟩ := HV.out.ext hE k (by rw [Hvn.out]; exact hlt)
        rw [← gi_at] at hc1 hc2
        have g1 := (HB.out.ext hX).cellv 1 (v := .slice (some ⟨b2, o2, none⟩) m vc) rfl
        have hz := (HB.out.ext hX).lt
        have h1 := HS2.out k (by omega)
        have h3 := Hb2.out k
        have h4 := Hb4.out k hlt
        have h5 : -30000 ≤ gi y k * gi V k ∧ gi y k * gi V k ≤ 30000 := by
          have h6 : gi y k * gi V k ≤ gi y k * 1000 := Int.mul_le_mul_of_nonneg_left h4.2 h3.1
          have h7 : gi y k * (-1000) ≤ gi y k * gi V k := Int.mul_le_mul_of_nonneg_left h4.1 h3.1
          omega
        have Hs : Hid (sumN (fun j => gi y j * gi V j) (k + 1) = sumN (fun j => gi y j * gi V j) k + gi y k * gi V k) := Lib.hid rfl
        generalize sumN (fun j => gi y j * gi V j) k = S at *
        generalize gi y k = p at *
        generalize gi V k = q at *
        go_wp2_with fail
        go_roundw
        case rel => exact ⟨k + 1, by omega, by go_num, by rw [Hs.out, Int.add_assoc], hX⟩
        case measure => simp [intOf]; omega
      obtain rfl : m = k := by omega
      have Hf := Lib.hid (show RetN WT w (.returned (.int .i64 (S1 + sumN (fun j => gi y j * gi V j) m))) wr from ⟨ret_int Hw.out.symm, hE0.trans' hX⟩)
      go_wp2_with fail
      go_ret
      exact Hf.out
/-- what price.Worth says where masses and costs fit -/
def worV (x y : List Int) (t : Tbl) (U V : List Int) : Int := if prcErr t U V = 0 then worthT x.length y.length (gi x) (gi y) (gi U) (gi V) else 0
def RetIE2 (v e : Int) (w : World) (e' : Ending) (w' : World) : Prop := e' = .returned (.tuple #[.int .i64 v, .int .i64 e]) ∧ Ext w w'
theorem prcErr_ok {t : Tbl} {U V : List Int} (h : prcErr t U V = 0) : prB t U V = true ∧ feasB t U V = true := by
  unfold prcErr at h
  split at h
  · rename_i h1
    rw [Bool.and_eq_true] at h1
    split at h
    · rename_i h2; exact ⟨h1.2, h2⟩
    · omega
  · omega
set_option maxRecDepth 20000 in
set_option maxHeartbeats 8000000 in
theorem f63_c (ax bx a ua va : Option Addr) (n c ca cb un uc vn vc : Nat) (x y : List Int) (t : Tbl) (U V : List Int) (w : World) (hx : Ints w ax x) (hy : Ints w bx y) (hl : Table w a t) (hn : t.length = n) (h0 : fitsErr x y t = 0) (hU : Ints w ua U) (hun : U.length = un) (hul : un ≤ 1000000) (hV : Ints w va V) (hvn : V.length = vn) (hvl : vn ≤ 1000000) :
    Calls Try.prog 63 #[.slice ax x.length ca, .slice bx y.length cb, .slice a n c, .agg #[.slice ua un uc, .slice va vn vc]] w (RetIE2 (worV x y t U V) (prcErr t U V) w) := by
  subst hn
  have hF := fits_ok h0
  have hE0 := ext_alloc w (.cells #[.slice ua un uc, .slice va vn vc] 77)
  have HB := Lib.hid (BlkC.new w #[.slice ua un uc, .slice va vn vc] 77)
  have htl := hF.T.len
  have htm := hF.T.cols 0 (by have := hF.T.n1; omega)
  have hT : TOk t.length (row t 0).length 0 99 t := by rw [htl, htm]; exact hF.T
  have C1 : ∀ W, Ext w W → Calls Try.prog 98 #[.slice ax x.length ca, .slice bx y.length cb, .slice a t.length c] W fun e w' => e = .returned (.int .i64 0) ∧ Ext W w' := fun W hE => by
    have := f98_c ax bx a x.length y.length t.length c ca cb x y t W (hx.ext hE) rfl (by have := hF.T.n5; omega) (hy.ext hE) rfl (by have := hF.T.m5; omega) (hl.ext hE) rfl (by have := hF.T.n5; omega) (fun j hj => by have h1 := hF.T.cols j (by omega); rw [row_at hj] at h1; have := hF.T.m5; omega)
    rw [h0] at this; exact this
  have C1 := Lib.hid C1
  have C2 : ∀ W, Ext w W → Calls Try.prog 108 #[.slice a t.length c, .agg #[.slice ua un uc, .slice va vn vc]] W fun e w' => e = .returned (.int .i64 (prcErr t U V)) ∧ Ext W w' := fun W hE => f108_c a ua va t.length c un uc vn vc t U V W (hl.ext hE) rfl hT (hU.ext hE) hun hul (hV.ext hE) hvn hvl
  have C2 := Lib.hid C2
  have g0 := HB.out.cellv 0 (v := .slice ua un uc) rfl
  have g1 := HB.out.cellv 1 (v := .slice va vn vc) rfl
  have hz := HB.out.lt
  have HF := Lib.hid hF
  have HX := Lib.hid hx
  have HY := Lib.hid hy
  have HU := Lib.hid hU
  have HV := Lib.hid hV
  have Hun := Lib.hid hun
  have Hvn := Lib.hid hvn
  have Htl := Lib.hid htl
  have Htm := Lib.hid htm
  by_cases hp : prcErr t U V = 0
  case neg =>
    have hw : worV x y t U V = 0 := if_neg hp
    have Hr : Hid (orL [0, prcErr t U V] = prcErr t U V) := Lib.hid (by simp [orL, hp])
    have d1 : (prcErr t U V != 0) = true := by simp [hp]
    rw [hw]
    clear hw hp h0 hF htl htm hT hx hy hU hV hun hvn hl
    generalize prcErr t U V = E at *
    go_enter Try.func63, Try.ntmps63
    go_wp2_with fail
    generalize w.alloc (.cells #[.slice ua un uc, .slice va vn vc] 77) = w0 at *
    refine wp_region_ext_tail 7 (by kernel_rfl) (by kernel_rfl) ?_
    simp only [List.take_succ_cons, List.take_zero, List.drop_succ_cons, List.drop_zero]
    repeat (go_big_quiet_step (fail))
    go_big_quiet_step ((go_at_call 98; refine quiet_ext (C1.out _ ?_); exact hE0.trans' (GW.ext _)))
    repeat (go_big_quiet_step (fail))
    go_big_quiet_step ((go_at_call 108; refine quiet_ext (C2.out _ ?_); exact hE0.trans' (GW.ext _)))
    repeat (go_big_quiet_step (fail))
    refine wpQuiet_nil ?_
    intro w1 hX1
    have hE1 := hE0.trans' hX1
    go_wp2_with fail
    refine (f101_r E _ _ _ [0, E] _ (ints_new2 _ _ _ _ _ rfl) rfl (by simp) Hr.out).mono ?_
    rintro e w2 ⟨rfl, rfl⟩
    go_wp2_with fail
    go_ret2
    exact ⟨rfl, hE1.trans' (ext_alloc _ _)⟩
  obtain ⟨p1, p2⟩ := prcErr_ok hp
  obtain ⟨⟨q1, q2⟩, q3, q4⟩ := prB_ok p1
  have hw : worV x y t U V = worthT x.length y.length (gi x) (gi y) (gi U) (gi V) := if_pos hp
  have C90 : ∀ W, Ext w W → Calls Try.prog 109 #[.slice ax x.length ca, .slice bx y.length cb, .agg #[.slice ua un uc, .slice va vn vc]] W (RetN (worthT x.length y.length (gi x) (gi y) (gi U) (gi V)) W) := fun W hE => by
    have := f109_c ax bx ua va x.length y.length ca cb uc vc x y U V W (hx.ext hE) rfl hF.T.n5 (hy.ext hE) rfl hF.T.m5 (hU.ext hE) (by omega) (hV.ext hE) (by omega) hF.bx hF.bY (fun i hi => q2 i (by omega)) (fun i hi => q4 i (by omega))
    rw [show un = x.length by omega, show vn = y.length by omega]
    exact this
  have C90 := Lib.hid C90
  rw [hw, hp]
  rw [hp] at C2
  clear hw hp h0 hF htl htm hT hx hy hU hV hun hvn hl p1 p2 q1 q2 q3 q4
  generalize worthT x.length y.length (gi x) (gi y) (gi U) (gi V) = WT at *
  go_enter Try.func63, Try.ntmps63
  go_wp2_with fail
  generalize w.alloc (.cells #[.slice ua un uc, .slice va vn vc] 77) = w0 at *
  refine wp_region_ext_tail 7 (by kernel_rfl) (by kernel_rfl) ?_
  simp only [List.take_succ_cons, List.take_zero, List.drop_succ_cons, List.drop_zero]
  repeat (go_big_quiet_step (fail))
  go_big_quiet_step ((go_at_call 98; refine quiet_ext (C1.out _ ?_); exact hE0.trans' (GW.ext _)))
  repeat (go_big_quiet_step (fail))
  go_big_quiet_step ((go_at_call 108; refine quiet_ext (C2.out _ ?_); exact hE0.trans' (GW.ext _)))
  repeat (go_big_quiet_step (fail))
  refine wpQuiet_nil ?_
  intro w1 hX1
  have hE1 := hE0.trans' hX1
  go_wp2_with fail
  refine (f101_r 0 _ _ _ [0, 0] _ (ints_new2 _ _ _ _ _ rfl) rfl (by simp) rfl).mono ?_
  rintro e w2 ⟨rfl, rfl⟩
  have hX2 := hX1.trans' (ext_alloc w1 (.cells #[.int .i64 0, .int .i64 0] 27))
  have hE2 := hE0.trans' hX2
  have g0 := (HB.out.ext hX2).cellv 0 (v := .slice ua un uc) rfl
  have g1 := (HB.out.ext hX2).cellv 1 (v := .slice va vn vc) rfl
  have hz2 := (HB.out.ext hX2).lt
  go_wp2_with fail
  refine (C90.out _ hE2).mono ?_
  rintro e w3 ⟨rfl, hX3⟩
  go_wp2_with fail
  go_ret2
  exact ⟨rfl, hE2.trans' hX3⟩
end Go.Proofs.Ytfhgnmijigdlmaa.Tr
