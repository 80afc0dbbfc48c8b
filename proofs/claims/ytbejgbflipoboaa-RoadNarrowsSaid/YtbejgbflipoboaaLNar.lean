/- RoadNarrows: the law's walk. -/
import Derived.Test.YtbejgbflipoboaaT14
import Derived.Test.YtbejgbflipoboaaT23
namespace Go.Proofs.Ytbejgbflipoboaa
open Go.RowKit
attribute [local go_sem] GW.cell
theorem nearS_bd {x l : List Int} {M : Nat} (h : ∀ v, v < M → -1 ≤ gi l v ∧ gi l v ≤ 495) : ∀ k, k ≤ M → -1 ≤ nearS x l k ∧ nearS x l k ≤ 495
  | 0, _ => by simp [nearS]
  | k + 1, hk => by
    have := nearS_bd (x := x) h k (by omega)
    have := h k (by omega)
    simp only [nearS]
    split <;> omega
/-- all that the law's walk asks -/
structure NarOk (M : Nat) (R : List Road) (y : List Int) : Prop where
  len : y.length = M
  m1 : 1 ≤ M ∧ M ≤ 6
  yb : ∀ v, v < M → -30 ≤ gi y v ∧ gi y v ≤ 30
  bd : ∀ k, k ≤ M → 0 ≤ boundD M R y k ∧ boundD M R y k ≤ k * 14850
  err : ∀ k : Nat, k < M → distErr (M : Int) R (k : Int) = 0
  dv : ∀ k : Nat, k < M → (distV (M : Int) R (k : Int)).length = M ∧ ∀ v, v < M → -1 ≤ gi (distV (M : Int) R (k : Int)) v ∧ gi (distV (M : Int) R (k : Int)) v ≤ 495
  no : ∀ k, gi y k ≤ 0 → boundD M R y (k + 1) = boundD M R y k
  yes : ∀ k : Nat, k < M → 0 < gi y k → boundD M R y (k + 1) = boundD M R y k + nearS y (distV (M : Int) R (k : Int)) M * gi y k ∧ 0 ≤ nearS y (distV (M : Int) R (k : Int)) M ∧ 0 ≤ nearS y (distV (M : Int) R (k : Int)) M * gi y k ∧ nearS y (distV (M : Int) R (k : Int)) M * gi y k ≤ 14850
  last : boundD M R y M ≤ lstF (M : Int) R y
theorem nar_ok {N : Int} {R : List Road} {y : List Int} (h : okF N R y = true) : ∃ M : Nat, N = M ∧ NarOk M R y := by
  obtain ⟨M, rfl, h2, h3, h4, h5, h6, h7, h8, h9⟩ := okF_flow h
  have hM := h3.n1
  obtain ⟨x1, x2, x3, x4⟩ := excErr_ok h4
  have herr : ∀ k : Nat, k < M → distErr (M : Int) R (k : Int) = 0 := fun k hk => distErr_yes x1 (by simp [withinB]; omega)
  have hpos : ∀ k : Nat, k < M → 0 < gi y k → 0 ≤ nearD M R y k M ∧ nearD M R y k M ≤ 495 := fun k hk hy => by
    have := narrow_some h3 h7 hk hy
    have := nearD_bd h3 (x := y) hk
    omega
  have hmul : ∀ k : Nat, k < M → 0 < gi y k → 0 ≤ nearD M R y k M * gi y k ∧ nearD M R y k M * gi y k ≤ 14850 := fun k hk hy => by
    obtain ⟨p1, p2⟩ := hpos k hk hy
    have p3 := (x3 k (by omega)).2
    refine ⟨Int.mul_nonneg p1 (by omega), ?_⟩
    have := Int.mul_le_mul p2 p3 (by omega) (by omega : (0:Int) ≤ 495)
    omega
  have hdv : ∀ k : Nat, k < M → (distV (M : Int) R (k : Int)).length = M ∧ ∀ v, v < M → -1 ≤ gi (distV (M : Int) R (k : Int)) v ∧ gi (distV (M : Int) R (k : Int)) v ≤ 495 := fun k hk => by
    rw [distV_yes (herr k hk)]
    refine ⟨by rw [distL_length, distW_length], fun v hv => ?_⟩
    rw [distL_at hv]
    have := (dist_ok h3 hk).near v hv
    unfold unfar farW at *
    split <;> omega
  refine ⟨M, rfl, h2, ⟨by omega, by omega⟩, fun v hv => x3 v (by omega), ?_, herr, hdv, fun k hk => by simp only [boundD]; rw [if_pos hk], fun k hk hy => ?_, ?_⟩
  · intro k
    induction k with
    | zero => intro _; simp [boundD]
    | succ k ih =>
      intro hk
      have ih := ih (by omega)
      simp only [boundD]
      split
      · omega
      · have := hmul k (by omega) (by omega)
        omega
  · have e : nearS y (distV (M : Int) R (k : Int)) M = nearD M R y k M := by
      rw [distV_yes (herr k hk), nearS_eq h3 hk M (Nat.le_refl _)]
      have := hpos k hk hy
      unfold unfar farW
      rw [if_neg (by omega)]
    rw [e]
    refine ⟨?_, (hpos k hk hy).1, (hmul k hk hy).1, (hmul k hk hy).2⟩
    simp only [boundD]
    rw [if_neg (by omega)]
  · rw [h8]
    exact narrow h3 h7
set_option maxRecDepth 20000 in
set_option maxHeartbeats 16000000 in
theorem lawNar (w : World) (N : Int) (a : Option Addr) (n c : Nat) (R : List Road) (hl : Roads w a R) (hn : R.length = n) (a1 : Option Addr) (n1 c1 : Nat) (y : List Int) (hy : Ints w a1 y) (hn1 : y.length = n1) :
    Calls Try.prog 12 #[.agg #[.int .i64 N, .slice a n c, .slice a1 n1 c1]] w fun e w' => e = .returned (.bool true) ∧ Ext w w' := by
  subst hn hn1
  have hE0 := ext_alloc w (.cells #[.int .i64 N, .slice a R.length c, .slice a1 y.length c1] 27)
  have HB := Lib.hid (BlkC.new w #[.int .i64 N, .slice a R.length c, .slice a1 y.length c1] 27)
  have hz1 := HB.out.lt
  have g0 := HB.out.cellv 0 (v := .int .i64 N) rfl
  have g1 := HB.out.cellv 1 (v := .slice a R.length c) rfl
  have g2 := HB.out.cellv 2 (v := .slice a1 y.length c1) rfl
  go_enter Try.func12, Try.ntmps12
  go_wp2_with fail
  generalize (w.alloc (.cells #[.int .i64 N, .slice a R.length c, .slice a1 y.length c1] 27)) = w0 at *
  refine (f17_c N a R.length c a1 y.length c1 _).mono ?_
  rintro e w1 ⟨rfl, hX1⟩
  have hE1 := hE0.trans' hX1
  rcases Bool.eq_false_or_eq_true (decide (60 < (R.length : Int)) || decide (60 < (y.length : Int))) with h1 | h1
  · rw [h1]
    go_wp2_with fail
    refine (f19_c _).mono ?_
    rintro e w9 ⟨rfl, hX9⟩
    go_wp2_with fail
    go_ret
    exact ⟨rfl, hE1.trans' hX9⟩
  rw [h1]
  rw [Bool.or_eq_false_iff] at h1
  have h2 := of_decide_eq_false h1.1
  have h3 := of_decide_eq_false h1.2
  clear h1
  clear g0 g1 g2 hz1
  have g0 := (HB.out.ext hX1).cellv 0 (v := .int .i64 N) rfl
  have g1 := (HB.out.ext hX1).cellv 1 (v := .slice a R.length c) rfl
  have g2 := (HB.out.ext hX1).cellv 2 (v := .slice a1 y.length c1) rfl
  have hz1 := (HB.out.ext hX1).lt
  go_wp2_with fail
  refine (f26_c N a R.length c R a1 y.length c1 y _ (hl.ext hE1) rfl (by omega) (hy.ext hE1) rfl (by omega)).mono ?_
  rintro e w2 ⟨rfl, hX2⟩
  have hE2 := hE1.trans' hX2
  have hY2 := hX1.trans' hX2
  clear g0 g1 g2 hz1
  have g0 := (HB.out.ext hY2).cellv 0 (v := .int .i64 N) rfl
  have g1 := (HB.out.ext hY2).cellv 1 (v := .slice a R.length c) rfl
  have g2 := (HB.out.ext hY2).cellv 2 (v := .slice a1 y.length c1) rfl
  have hz1 := (HB.out.ext hY2).lt
  by_cases h0 : excErr N R y = 0
  case neg =>
    have hb : (excErr N R y != 0) = true := by simp [h0]
    clear h0
    generalize excErr N R y = E at *
    generalize okF N R y = ok at *
    go_wp2_with fail
    refine (f19_c _).mono ?_
    rintro e w9 ⟨rfl, hX9⟩
    go_wp2_with fail
    go_ret
    exact ⟨rfl, hE2.trans' hX9⟩
  rw [h0]
  rcases Bool.eq_false_or_eq_true (okF N R y) with hb | hb
  case inr =>
    rw [hb]
    clear hb h0
    go_wp2_with fail
    refine (f19_c _).mono ?_
    rintro e w9 ⟨rfl, hX9⟩
    go_wp2_with fail
    go_ret
    exact ⟨rfl, hE2.trans' hX9⟩
  obtain ⟨M, e, hk⟩ := nar_ok hb
  subst e
  rw [hb]
  clear hb h0
  have HK := Lib.hid hk
  have hlen := hk.len
  have hm1 := hk.m1
  have hlast := hk.last
  have hbM := hk.bd M (Nat.le_refl _)
  clear hk
  generalize lstF (M : Int) R y = V at *
  go_wp2_with fail
  go_loopw [6, 7] (fun bn i wr => ∃ k : Nat, k ≤ M ∧ i = .int .i64 k ∧ bn = .int .i64 (boundD M R y k) ∧ Ext w2 wr) (fun _ i _ => M - (intOf i).toNat)
  case atStart => exact ⟨0, Nat.zero_le _, rfl, rfl, Below.refl _ _⟩
  case round =>
    obtain ⟨k, hk, rfl, rfl, hX3⟩ := hrel
    have hE3 := hE2.trans' hX3
    have hY3 := hY2.trans' hX3
    clear g0 g1 g2 hz1
    have g0 := (HB.out.ext hY3).cellv 0 (v := .int .i64 (M : Int)) rfl
    have g1 := (HB.out.ext hY3).cellv 1 (v := .slice a R.length c) rfl
    have g2 := (HB.out.ext hY3).cellv 2 (v := .slice a1 y.length c1) rfl
    have hz1 := (HB.out.ext hY3).lt
    have hbk := HK.out.bd k hk
    by_cases hlt : k < M
    case neg =>
      obtain rfl : k = M := by omega
      generalize boundD k R y k = bb at *
      have hd : decide (bb ≤ V) = true := decide_eq_true hlast
      have hd2 : decide (V ≥ bb) = true := decide_eq_true hlast
      go_wp2_with fail
      refine (f19_c _).mono ?_
      rintro e w9 ⟨rfl, hX9⟩
      go_wp2_with fail
      go_ret
      exact ⟨rfl, hE3.trans' hX9⟩
    have hyb := HK.out.yb k hlt
    have HNo := Lib.hid (HK.out.no k)
    have HYes := Lib.hid (HK.out.yes k hlt)
    have herr := HK.out.err k hlt
    obtain ⟨hdl, hdb⟩ := HK.out.dv k hlt
    have Hns := Lib.hid (nearS_bd (x := y) hdb)
    have Hdb := Lib.hid hdb
    clear hdb
    obtain ⟨b1, o1, e1, hb1, hc1⟩ := hy.ext hE3 k (by omega)
    rw [gi_def] at hc1
    have Hy := Lib.hid hy
    subst e1
    generalize hbb : boundD M R y k = bb at *
    clear hbb
    generalize hz : gi y k = z at *
    have Hz := Lib.hid hz
    clear hz
    by_cases hz0 : z ≤ 0
    case pos =>
      have hd : decide (z ≤ 0) = true := decide_eq_true hz0
      have HB2 := Lib.hid (HNo.out hz0)
      clear HNo HYes Hns hdl herr
      go_wp2_with fail
      go_roundw
      case rel => exact ⟨k + 1, by omega, by go_num, by rw [HB2.out], hX3⟩
      case measure => simp [intOf]; omega
    have hd : decide (z ≤ 0) = false := decide_eq_false hz0
    have HYes := Lib.hid (HYes.out (by omega))
    clear HNo
    go_wp2_with fail
    refine (f40_c (M : Int) a R.length c R (k : Int) _ (hl.ext hE3) rfl (by omega)).mono ?_
    rintro e w4 ⟨a3, c3, rfl, hI3, hX4⟩
    rw [herr]
    clear herr hc1
    have hE4 := hE3.trans' hX4
    have hY4 := hY3.trans' hX4
    have hX34 := hX3.trans' hX4
    clear g0 g1 g2 hz1
    have g0 := (HB.out.ext hY4).cellv 0 (v := .int .i64 (M : Int)) rfl
    have g1 := (HB.out.ext hY4).cellv 1 (v := .slice a R.length c) rfl
    have g2 := (HB.out.ext hY4).cellv 2 (v := .slice (some ⟨b1, o1, none⟩) y.length c1) rfl
    have hz1 := (HB.out.ext hY4).lt
    have HI := Lib.hid hI3
    clear hI3
    generalize distV (M : Int) R (k : Int) = L at *
    have hne : ((L.length : Int) != (y.length : Int)) = false := by rw [hdl, hlen]; simp
    go_wp2_with fail
    go_loopw [10, 11] (fun nr q wr => ∃ p : Nat, p ≤ M ∧ q = .int .i64 p ∧ nr = .int .i64 (nearS y L p) ∧ Ext w4 wr) (fun _ q _ => M - (intOf q).toNat)
    case atStart => exact ⟨0, Nat.zero_le _, rfl, rfl, Below.refl _ _⟩
    case round =>
      obtain ⟨p, hp, rfl, rfl, hX5⟩ := hrel
      have hE5 := hE4.trans' hX5
      have hY5 := hY4.trans' hX5
      have hX35 := hX34.trans' hX5
      clear g0 g1 g2 hz1
      have g0 := (HB.out.ext hY5).cellv 0 (v := .int .i64 (M : Int)) rfl
      have g1 := (HB.out.ext hY5).cellv 1 (v := .slice a R.length c) rfl
      have g2 := (HB.out.ext hY5).cellv 2 (v := .slice (some ⟨b1, o1, none⟩) y.length c1) rfl
      have hz1 := (HB.out.ext hY5).lt
      have hnb := Hns.out p (by omega)
      by_cases hlp : p < M
      case neg =>
        obtain rfl : p = M := by omega
        have HYe := HYes.out
        have HK2 := HK.out.bd k hk
        obtain ⟨b3, o3, e3, hb3, hc3⟩ := Hy.out.ext hE5 k (by omega)
        simp only [Option.some.injEq, Addr.mk.injEq, and_true] at e3
        obtain ⟨rfl, rfl⟩ := e3
        rw [gi_def, Hz.out] at hc3
        clear HYes Hns hdl HK2
        have HYq := Lib.hid HYe.1
        obtain ⟨_, y2, y3, y4⟩ := HYe
        generalize nearS y L p = nn at *
        have hdn : decide (nn < 0) = false := decide_eq_false (by omega)
        go_wp2_with fail
        go_roundw
        case rel => exact ⟨k + 1, by omega, by go_num, by rw [HYq.out], hX35⟩
        case measure => simp [intOf]; omega
      have Hsucc : Hid (nearS y L (p + 1) = if gi y p < 0 ∧ 0 ≤ gi L p ∧ (nearS y L p < 0 ∨ gi L p < nearS y L p) then gi L p else nearS y L p) := Lib.hid rfl
      obtain ⟨b3, o3, e3, hb3, hc3⟩ := Hy.out.ext hE5 p (by omega)
      simp only [Option.some.injEq, Addr.mk.injEq, and_true] at e3
      obtain ⟨rfl, rfl⟩ := e3
      obtain ⟨b4, o4, e4, hb4, hc4⟩ := HI.out.ext hX5 p (by omega)
      subst e4
      rw [gi_def] at hc3 hc4
      have Hy3 := Lib.hid (fun W (hW : Ext wr W) => (HI.out.ext (hX5.trans' hW)) p (by omega))
      have hLb := Hdb.out p (by omega)
      generalize gi y p = yp at *
      generalize hlpv : gi L p = lp at *
      have Hlp := Lib.hid hlpv
      clear hlpv
      generalize nearS y L p = nn at *
      by_cases q1 : yp < 0
      case neg =>
        have d1 : decide (yp < 0) = false := decide_eq_false q1
        have Hnx := Lib.hid (Hsucc.out.trans (if_neg (by omega)))
        go_wp2_with fail
        go_roundw
        case rel => exact ⟨p + 1, by omega, by go_num, by rw [Hnx.out], hX5⟩
        case measure => simp [intOf]; omega
      have d1 : decide (yp < 0) = true := decide_eq_true q1
      by_cases q2 : 0 ≤ lp
      case neg =>
        have d2 : decide (0 ≤ lp) = false := decide_eq_false q2
        have Hnx := Lib.hid (Hsucc.out.trans (if_neg (by omega)))
        go_wp2_with fail
        go_roundw
        case rel => exact ⟨p + 1, by omega, by go_num, by rw [Hnx.out], hX5⟩
        case measure => simp [intOf]; omega
      have d2 : decide (0 ≤ lp) = true := decide_eq_true q2
      by_cases q3 : nn < 0
      case pos =>
        have d3 : decide (nn < 0) = true := decide_eq_true q3
        have Hnx := Lib.hid (Hsucc.out.trans (if_pos (by omega)))
        go_wp2_with fail
        go_roundw
        case rel => exact ⟨p + 1, by omega, by go_num, by rw [Hnx.out], hX5⟩
        case measure => simp [intOf]; omega
      have d3 : decide (nn < 0) = false := decide_eq_false q3
      by_cases q4 : lp < nn
      case pos =>
        have d4 : decide (lp < nn) = true := decide_eq_true q4
        have Hnx := Lib.hid (Hsucc.out.trans (if_pos (by omega)))
        go_wp2_with fail
        go_roundw
        case rel => exact ⟨p + 1, by omega, by go_num, by rw [Hnx.out], hX5⟩
        case measure => simp [intOf]; omega
      have d4 : decide (lp < nn) = false := decide_eq_false q4
      have Hnx := Lib.hid (Hsucc.out.trans (if_neg (by omega)))
      go_wp2_with fail
      go_roundw
      case rel => exact ⟨p + 1, by omega, by go_num, by rw [Hnx.out], hX5⟩
      case measure => simp [intOf]; omega
end Go.Proofs.Ytbejgbflipoboaa
