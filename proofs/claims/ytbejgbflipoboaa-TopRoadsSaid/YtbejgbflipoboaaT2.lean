/- Contracts of roads: Sum, ValidateExcess. -/
import Derived.Test.YtbejgbflipoboaaT1
namespace Go.Proofs.Ytbejgbflipoboaa
open Go.RowKit
attribute [local go_sem] GW.cell
theorem exc_net {N : Int} {R : List Road} {x : List Int} (h : netErr N R ≠ 0) : excErr N R x = netErr N R := by unfold excErr; rw [if_pos h]
theorem exc_bad {N : Int} {R : List Road} {x : List Int} (h0 : netErr N R = 0) {k : Nat} (hk : k < x.length) (h : withinB (gi x k) (-30) 30 = false) : excErr N R x = 1 := by
  unfold excErr
  rw [if_neg (by simpa using h0), if_neg]
  rw [gi_at hk] at h
  rw [all_no (p := excOk) hk h]; simp
theorem exc_len {N : Int} {R : List Road} {x : List Int} (h0 : netErr N R = 0) (h : (x.length : Int) ≠ N) : excErr N R x = 1 := by
  unfold excErr
  rw [if_neg (by simpa using h0), if_neg]
  intro h2; exact h h2.2
theorem exc_sum {N : Int} {R : List Road} {x : List Int} (h0 : netErr N R = 0) (h : ∀ j, j < x.length → -30 ≤ gi x j ∧ gi x j ≤ 30) (hl : (x.length : Int) = N) : excErr N R x = if sumR (gi x) x.length = 0 then 0 else 5 := by
  unfold excErr
  rw [if_neg (by simpa using h0), if_pos]
  exact ⟨all_yes fun j hj => withinB_iff.2 (by rw [← gi_at hj]; exact h j hj), hl⟩
set_option maxHeartbeats 2000000 in
theorem f66_c (a : Option Addr) (n c : Nat) (l : List Int) (w : World) (hl : Ints w a l) (hn : l.length = n) (hlen : n ≤ 1000000) (hb : ∀ j, j < l.length → -1000000 ≤ gi l j ∧ gi l j ≤ 1000000) :
    Calls Try.prog 66 #[.slice a n c] w fun e w' => e = .returned (.int .i64 (sumR (gi l) l.length)) ∧ Ext w w' := by
  subst hn
  have Hbd := Lib.hid (fun k (hk : k ≤ l.length) => sumR_bd hb k hk)
  have Hb := Lib.hid hb
  clear hb
  go_enter Try.func66, Try.ntmps66
  go_wp2_with fail
  go_loopw [3, 4] (fun s i wr => ∃ k : Nat, k ≤ l.length ∧ i = .int .i64 k ∧ s = .int .i64 (sumR (gi l) k) ∧ Ext w wr) (fun s i _ => l.length - (intOf i).toNat)
  case atStart => exact ⟨0, Nat.zero_le _, rfl, rfl, Below.refl _ _⟩
  case round =>
    obtain ⟨k, hk, rfl, rfl, hE⟩ := hrel
    by_cases hlt : k < l.length
    · obtain ⟨b, off, rfl, hb, hc⟩ := hl.ext hE k hlt
      rw [gi_def] at hc
      have h1 := Hbd.out k hk
      have h2 := Hb.out k hlt
      have Hs : Hid (sumR (gi l) (k + 1) = sumR (gi l) k + gi l k) := Lib.hid rfl
      generalize sumR (gi l) k = A at *
      generalize gi l k = v at *
      go_wp2_with fail
      go_roundw
      case rel => exact ⟨k + 1, by omega, by go_num, by rw [Hs.out], hE⟩
      case measure => simp [intOf]; omega
    · obtain rfl : k = l.length := by omega
      go_wp2_with fail
      go_ret
      exact ⟨rfl, hE⟩
set_option maxHeartbeats 4000000 in
theorem f24_c (N : Int) (a : Option Addr) (n c : Nat) (R : List Road) (a2 : Option Addr) (n2 c2 : Nat) (x : List Int) (w : World) (hl : Roads w a R) (hn : R.length = n) (hlen : n ≤ 140737488355328) (hx : Ints w a2 x) (hn2 : x.length = n2) (hlen2 : n2 ≤ 1000000) :
    Calls Try.prog 24 #[.agg #[.int .i64 N, .slice a n c], .slice a2 n2 c2] w fun e w' => e = .returned (.int .i64 (excErr N R x)) ∧ Ext w w' := by
  subst hn hn2
  have hE0 := ext_alloc w (.cells #[.int .i64 N, .slice a R.length c] 24)
  have HB := Lib.hid (BlkC.new w #[.int .i64 N, .slice a R.length c] 24)
  have hz := HB.out.lt
  have g0 := HB.out.cellv 0 (v := .int .i64 N) rfl
  have g1 := HB.out.cellv 1 (v := .slice a R.length c) rfl
  go_enter Try.func24, Try.ntmps24
  go_wp2_with fail
  generalize (w.alloc (.cells #[.int .i64 N, .slice a R.length c] 24)) = w0 at *
  refine (f22_c N a R.length c R _ (hl.ext hE0) rfl hlen).mono ?_
  rintro e w1 ⟨rfl, hX1⟩
  have hE1 := hE0.trans' hX1
  by_cases h0 : netErr N R = 0
  case neg =>
    have hb : (netErr N R != 0) = true := by simp [h0]
    have HR := Lib.hid (exc_net (x := x) h0)
    clear h0
    generalize netErr N R = E at *
    go_wp2_with fail
    go_ret
    exact ⟨ret_int HR.out.symm, hE1⟩
  have H0 := Lib.hid h0
  have hN := (netErr_ok h0).n1
  rw [h0]
  clear h0 g0 g1
  have g0 := (HB.out.ext hX1).cellv 0 (v := .int .i64 N) rfl
  have g1 := (HB.out.ext hX1).cellv 1 (v := .slice a R.length c) rfl
  go_wp2_with fail
  go_loopw [6, 16] (fun s i wr => ∃ k : Nat, k ≤ x.length ∧ i = .int .i64 k ∧ s = .int .i64 (sumR (gi x) k) ∧ Ext w1 wr ∧ Hid (∀ j, j < k → -30 ≤ gi x j ∧ gi x j ≤ 30)) (fun s i _ => x.length - (intOf i).toNat)
  case atStart => exact ⟨0, Nat.zero_le _, rfl, rfl, Below.refl _ _, Lib.hid (fun j hj => by omega)⟩
  case round =>
    obtain ⟨k, hk, rfl, rfl, hX2, H⟩ := hrel
    have hE2 := hE1.trans' hX2
    have h30 := sumR_bd H.out k (Nat.le_refl _)
    by_cases hlt : k < x.length
    · obtain ⟨b2, o2, rfl, hb2, hc2⟩ := hx.ext hE2 k hlt
      rw [gi_def] at hc2
      have Hs : Hid (sumR (gi x) (k + 1) = sumR (gi x) k + gi x k) := Lib.hid rfl
      rcases Bool.eq_false_or_eq_true (withinB (gi x k) (-30) 30) with q | q
      · have hq := withinB_iff.1 q
        have Hq := Lib.hid hq
        generalize hv : gi x k = v at *
        have Hv := Lib.hid hv
        clear hv
        generalize sumR (gi x) k = A at *
        clear g0 g1
        go_wp2_with fail
        refine (f64_c _ _ _ _).mono ?_
        rintro e w9 ⟨rfl, rfl⟩
        rw [q]
        go_wp2_with fail
        go_roundw
        case rel =>
          refine ⟨k + 1, by omega, by go_num, by rw [Hs.out], hX2, Lib.hid (fun j hj => ?_)⟩
          rcases Nat.lt_or_ge j k with e | e
          · exact H.out j e
          · obtain rfl : j = k := by omega
            rw [Hv.out]; exact Hq.out
        case measure => simp [intOf]; omega
      · have HR := Lib.hid (exc_bad H0.out hlt q)
        generalize gi x k = v at *
        clear g0 g1
        go_wp2_with fail
        refine (f64_c _ _ _ _).mono ?_
        rintro e w9 ⟨rfl, rfl⟩
        rw [q]
        go_wp2_with fail
        go_ret
        exact ⟨ret_int HR.out.symm, hE2⟩
    obtain rfl : k = x.length := by omega
    clear g0 g1
    have g0 := (HB.out.ext (hX1.trans' hX2)).cellv 0 (v := .int .i64 N) rfl
    have g1 := (HB.out.ext (hX1.trans' hX2)).cellv 1 (v := .slice a R.length c) rfl
    by_cases hln : (x.length : Int) = N
    case neg =>
      have hb : ((x.length : Int) != N) = true := by simpa using hln
      have HR := Lib.hid (exc_len H0.out hln)
      clear H h30
      generalize sumR (gi x) x.length = A at *
      go_wp2_with fail
      go_ret
      exact ⟨ret_int HR.out.symm, hE2⟩
    have hb : ((x.length : Int) != N) = false := by simpa using hln
    have hln2 : (x.length : Int) ≤ N ∧ N ≤ x.length := by omega
    clear hln
    by_cases hs : sumR (gi x) x.length = 0
    · have hsb : (sumR (gi x) x.length != 0) = false := by simpa using hs
      have HR := Lib.hid (exc_sum H0.out H.out (by omega))
      rw [if_pos hs] at HR
      clear hs H
      generalize sumR (gi x) x.length = A at *
      go_wp2_with fail
      go_ret
      exact ⟨ret_int HR.out.symm, hE2⟩
    · have hsb : (sumR (gi x) x.length != 0) = true := by simpa using hs
      have HR := Lib.hid (exc_sum H0.out H.out (by omega))
      rw [if_neg hs] at HR
      clear hs H
      generalize sumR (gi x) x.length = A at *
      go_wp2_with fail
      go_ret
      exact ⟨ret_int HR.out.symm, hE2⟩
set_option maxHeartbeats 4000000 in
theorem f25_c (N : Int) (a : Option Addr) (n c : Nat) (R : List Road) (a2 : Option Addr) (n2 c2 : Nat) (x : List Int) (w : World) (hl : Roads w a R) (hn : R.length = n) (hlen : n ≤ 140737488355328) (hx : Ints w a2 x) (hn2 : x.length = n2) (hlen2 : n2 ≤ 1000000) :
    Calls Try.prog 25 #[.agg #[.int .i64 N, .slice a n c], .slice a2 n2 c2] w fun e w' => e = .returned (.int .i64 (excErr N R x)) ∧ Ext w w' := by
  subst hn hn2
  have hE0 := ext_alloc w (.cells #[.int .i64 N, .slice a R.length c] 24)
  have HB := Lib.hid (BlkC.new w #[.int .i64 N, .slice a R.length c] 24)
  have hz := HB.out.lt
  have g0 := HB.out.cellv 0 (v := .int .i64 N) rfl
  have g1 := HB.out.cellv 1 (v := .slice a R.length c) rfl
  go_enter Try.func25, Try.ntmps25
  go_wp2_with fail
  generalize (w.alloc (.cells #[.int .i64 N, .slice a R.length c] 24)) = w0 at *
  refine (f23_c N a R.length c R _ (hl.ext hE0) rfl hlen).mono ?_
  rintro e w1 ⟨rfl, hX1⟩
  have hE1 := hE0.trans' hX1
  by_cases h0 : netErr N R = 0
  case neg =>
    have hb : (netErr N R != 0) = true := by simp [h0]
    have HR := Lib.hid (exc_net (x := x) h0)
    clear h0
    generalize netErr N R = E at *
    go_wp2_with fail
    go_ret
    exact ⟨ret_int HR.out.symm, hE1⟩
  have H0 := Lib.hid h0
  have hN := (netErr_ok h0).n1
  rw [h0]
  clear h0 g0 g1
  have g0 := (HB.out.ext hX1).cellv 0 (v := .int .i64 N) rfl
  have g1 := (HB.out.ext hX1).cellv 1 (v := .slice a R.length c) rfl
  by_cases hln : (x.length : Int) = N
  case neg =>
    have hb : ((x.length : Int) != N) = true := by simpa using hln
    have HR := Lib.hid (exc_len H0.out hln)
    go_wp2_with fail
    go_ret
    exact ⟨ret_int HR.out.symm, hE1⟩
  have hb : ((x.length : Int) != N) = false := by simpa using hln
  have hln2 : (x.length : Int) ≤ N ∧ N ≤ x.length := by omega
  clear hln
  go_wp2_with fail
  go_loopw [6] (fun i wr => ∃ k : Nat, k ≤ x.length ∧ i = .int .i64 k ∧ Ext w1 wr ∧ Hid (∀ j, j < k → -30 ≤ gi x j ∧ gi x j ≤ 30)) (fun i _ => x.length - (intOf i).toNat)
  case atStart => exact ⟨0, Nat.zero_le _, rfl, Below.refl _ _, Lib.hid (fun j hj => by omega)⟩
  case round =>
    obtain ⟨k, hk, rfl, hX2, H⟩ := hrel
    have hE2 := hE1.trans' hX2
    have h30 := sumR_bd H.out k (Nat.le_refl _)
    by_cases hlt : k < x.length
    · obtain ⟨b2, o2, rfl, hb2, hc2⟩ := hx.ext hE2 k hlt
      rw [gi_def] at hc2
      have Hs : Hid (sumR (gi x) (k + 1) = sumR (gi x) k + gi x k) := Lib.hid rfl
      rcases Bool.eq_false_or_eq_true (withinB (gi x k) (-30) 30) with q | q
      · have hq := withinB_iff.1 q
        have Hq := Lib.hid hq
        generalize hv : gi x k = v at *
        have Hv := Lib.hid hv
        clear hv
        generalize sumR (gi x) k = A at *
        clear g0 g1
        go_wp2_with fail
        refine (f65_c _ _ _ _).mono ?_
        rintro e w9 ⟨rfl, rfl⟩
        rw [q]
        go_wp2_with fail
        go_roundw
        case rel =>
          refine ⟨k + 1, by omega, by go_num, hX2, Lib.hid (fun j hj => ?_)⟩
          rcases Nat.lt_or_ge j k with e | e
          · exact H.out j e
          · obtain rfl : j = k := by omega
            rw [Hv.out]; exact Hq.out
        case measure => simp [intOf]; omega
      · have HR := Lib.hid (exc_bad H0.out hlt q)
        generalize gi x k = v at *
        clear g0 g1
        go_wp2_with fail
        refine (f65_c _ _ _ _).mono ?_
        rintro e w9 ⟨rfl, rfl⟩
        rw [q]
        go_wp2_with fail
        go_ret
        exact ⟨ret_int HR.out.symm, hE2⟩
    obtain rfl : k = x.length := by omega
    clear g0 g1
    have g0 := (HB.out.ext (hX1.trans' hX2)).cellv 0 (v := .int .i64 N) rfl
    have g1 := (HB.out.ext (hX1.trans' hX2)).cellv 1 (v := .slice a R.length c) rfl
    have C66 := Lib.hid (f66_c a2 x.length c2 x _ (hx.ext hE2) rfl hlen2 (fun j hj => by have := H.out j hj; omega))
    by_cases hs : sumR (gi x) x.length = 0
    · have hsb : (sumR (gi x) x.length != 0) = false := by simpa using hs
      have HR := Lib.hid (exc_sum H0.out H.out (by omega))
      rw [if_pos hs] at HR
      clear hs H
      generalize sumR (gi x) x.length = A at *
      go_wp2_with fail
      refine C66.out.mono ?_
      rintro e w5 ⟨rfl, hX5⟩
      go_wp2_with fail
      go_ret
      exact ⟨ret_int HR.out.symm, hE2.trans' hX5⟩
    · have hsb : (sumR (gi x) x.length != 0) = true := by simpa using hs
      have HR := Lib.hid (exc_sum H0.out H.out (by omega))
      rw [if_neg hs] at HR
      clear hs H
      generalize sumR (gi x) x.length = A at *
      go_wp2_with fail
      refine C66.out.mono ?_
      rintro e w5 ⟨rfl, hX5⟩
      go_wp2_with fail
      go_ret
      exact ⟨ret_int HR.out.symm, hE2.trans' hX5⟩
end Go.Proofs.Ytbejgbflipoboaa
