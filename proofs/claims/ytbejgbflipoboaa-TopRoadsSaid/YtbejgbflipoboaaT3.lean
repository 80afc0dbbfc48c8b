/- Contracts of roads: flows, costs, equal lists. -/
import Derived.Test.YtbejgbflipoboaaT2
namespace Go.Proofs.Ytbejgbflipoboaa
open Go.RowKit
attribute [local go_sem] GW.cell
def flErr (R : List Road) (x : List Int) : Int := if flowB R x then 0 else 1
theorem flowAt_at {R : List Road} {f : List Int} {k : Nat} (h : k < R.length) : flowAt R f k = withinB (gi f k) 0 R[k].wd := by unfold flowAt; rw [rdK_at h]
set_option maxHeartbeats 4000000 in
theorem f57_c (N : Int) (a : Option Addr) (n c : Nat) (R : List Road) (a2 : Option Addr) (n2 c2 : Nat) (x : List Int) (w : World) (hl : Roads w a R) (hn : R.length = n) (hlen : n ≤ 140737488355328) (hx : Ints w a2 x) (hn2 : x.length = n2) (hlen2 : n2 ≤ 1000000) :
    Calls Try.prog 57 #[.agg #[.int .i64 N, .slice a n c], .slice a2 n2 c2] w fun e w' => e = .returned (.bool (flowB R x)) ∧ Ext w w' := by
  subst hn hn2
  by_cases hle : x.length = R.length
  case neg =>
    have hd : ((x.length : Int) != (R.length : Int)) = true := by simp; omega
    have HR := Lib.hid (flowB_len hle)
    clear hle
    have hE0 := ext_alloc w (.cells #[.int .i64 N, .slice a R.length c] 24)
    have HB := Lib.hid (BlkC.new w #[.int .i64 N, .slice a R.length c] 24)
    have hz := HB.out.lt
    have g0 := HB.out.cellv 0 (v := .int .i64 N) rfl
    have g1 := HB.out.cellv 1 (v := .slice a R.length c) rfl
    go_enter Try.func57, Try.ntmps57
    go_wp2_with fail
    go_ret
    exact ⟨ret_bool HR.out.symm, ext_alloc _ _⟩
  have hd : ((x.length : Int) != (R.length : Int)) = false := by simp; omega
  have hle2 : x.length ≤ R.length ∧ R.length ≤ x.length := by omega
  have Hle := Lib.hid hle
  clear hle
  have hE0 := ext_alloc w (.cells #[.int .i64 N, .slice a R.length c] 24)
  have HB := Lib.hid (BlkC.new w #[.int .i64 N, .slice a R.length c] 24)
  have hz := HB.out.lt
  have g0 := HB.out.cellv 0 (v := .int .i64 N) rfl
  have g1 := HB.out.cellv 1 (v := .slice a R.length c) rfl
  go_enter Try.func57, Try.ntmps57
  go_wp2_with fail
  generalize (w.alloc (.cells #[.int .i64 N, .slice a R.length c] 24)) = w0 at *
  go_loopw [15] (fun i wr => ∃ k : Nat, k ≤ x.length ∧ i = .int .i64 k ∧ Ext w0 wr ∧ Hid (∀ j, j < k → flowAt R x j = true)) (fun i _ => x.length - (intOf i).toNat)
  case atStart => exact ⟨0, Nat.zero_le _, rfl, Below.refl _ _, Lib.hid (fun j hj => by omega)⟩
  case round =>
    obtain ⟨k, hk, rfl, hX, H⟩ := hrel
    have hE := hE0.trans' hX
    clear g0 g1
    have g0 := (HB.out.ext hX).cellv 0 (v := .int .i64 N) rfl
    have g1 := (HB.out.ext hX).cellv 1 (v := .slice a R.length c) rfl
    have hzr := (HB.out.ext hX).lt
    by_cases hlt : k < x.length
    case neg =>
      obtain rfl : k = x.length := by omega
      have HR := Lib.hid (flowB_yes Hle.out H.out)
      clear H
      go_wp2_with fail
      go_ret
      exact ⟨ret_bool HR.out.symm, hE⟩
    have hltR : k < R.length := by omega
    obtain ⟨b, off, rfl, hb, c1, c2', c3, c4⟩ := hl.ext hE k hltR
    obtain ⟨b2, o2, rfl, hb2, hc2⟩ := hx.ext hE k hlt
    rw [gi_def] at hc2
    have Hq := Lib.hid (flowAt_at (f := x) hltR)
    rcases Bool.eq_false_or_eq_true (withinB (gi x k) 0 R[k].wd) with q | q
    case inr =>
      have HR := Lib.hid (flowB_no (R := R) hlt (Hq.out.trans q))
      clear H
      generalize gi x k = v at *
      generalize R[k].wd = wd at *
      go_wp2_with fail
      refine (f64_c _ _ _ _).mono ?_
      rintro e w9 ⟨rfl, rfl⟩
      have hX9 := Below.refl wr.heap.size wr
      have hE9 := hE
      rw [q]
      go_wp2_with fail
      go_ret
      exact ⟨ret_bool HR.out.symm, hE9⟩
    · have Hy := Lib.hid (Hq.out.trans q)
      clear Hq
      generalize gi x k = v at *
      generalize R[k].wd = wd at *
      go_wp2_with fail
      refine (f64_c _ _ _ _).mono ?_
      rintro e w9 ⟨rfl, rfl⟩
      have hX9 := Below.refl wr.heap.size wr
      have hE9 := hE
      rw [q]
      go_wp2_with fail
      go_roundw
      case rel =>
        refine ⟨k + 1, by omega, by go_num, hX.trans' hX9, Lib.hid (fun j hj => ?_)⟩
        rcases Nat.lt_or_ge j k with e | e
        · exact H.out j e
        · obtain rfl : j = k := by omega
          exact Hy.out
      case measure => simp [intOf]; omega
set_option maxHeartbeats 4000000 in
theorem f61_c (N : Int) (a : Option Addr) (n c : Nat) (R : List Road) (a2 : Option Addr) (n2 c2 : Nat) (x : List Int) (w : World) (hl : Roads w a R) (hn : R.length = n) (hlen : n ≤ 140737488355328) (hx : Ints w a2 x) (hn2 : x.length = n2) (hlen2 : n2 ≤ 1000000) :
    Calls Try.prog 61 #[.agg #[.int .i64 N, .slice a n c], .slice a2 n2 c2] w fun e w' => e = .returned (.int .i64 (flErr R x)) ∧ Ext w w' := by
  subst hn hn2
  by_cases hle : x.length = R.length
  case neg =>
    have hd : ((x.length : Int) != (R.length : Int)) = true := by simp; omega
    have HR := Lib.hid (flowB_len hle)
    clear hle
    have hE0 := ext_alloc w (.cells #[.int .i64 N, .slice a R.length c] 24)
    have HB := Lib.hid (BlkC.new w #[.int .i64 N, .slice a R.length c] 24)
    have hz := HB.out.lt
    have g0 := HB.out.cellv 0 (v := .int .i64 N) rfl
    have g1 := HB.out.cellv 1 (v := .slice a R.length c) rfl
    go_enter Try.func61, Try.ntmps61
    go_wp2_with fail
    go_ret
    exact ⟨ret_int (by unfold flErr; rw [HR.out]; rfl), ext_alloc _ _⟩
  have hd : ((x.length : Int) != (R.length : Int)) = false := by simp; omega
  have hle2 : x.length ≤ R.length ∧ R.length ≤ x.length := by omega
  have Hle := Lib.hid hle
  clear hle
  have hE0 := ext_alloc w (.cells #[.int .i64 N, .slice a R.length c] 24)
  have HB := Lib.hid (BlkC.new w #[.int .i64 N, .slice a R.length c] 24)
  have hz := HB.out.lt
  have g0 := HB.out.cellv 0 (v := .int .i64 N) rfl
  have g1 := HB.out.cellv 1 (v := .slice a R.length c) rfl
  go_enter Try.func61, Try.ntmps61
  go_wp2_with fail
  generalize (w.alloc (.cells #[.int .i64 N, .slice a R.length c] 24)) = w0 at *
  go_loopw [5] (fun i wr => ∃ k : Nat, k ≤ x.length ∧ i = .int .i64 k ∧ Ext w0 wr ∧ Hid (∀ j, j < k → flowAt R x j = true)) (fun i _ => x.length - (intOf i).toNat)
  case atStart => exact ⟨0, Nat.zero_le _, rfl, Below.refl _ _, Lib.hid (fun j hj => by omega)⟩
  case round =>
    obtain ⟨k, hk, rfl, hX, H⟩ := hrel
    have hE := hE0.trans' hX
    clear g0 g1
    have g0 := (HB.out.ext hX).cellv 0 (v := .int .i64 N) rfl
    have g1 := (HB.out.ext hX).cellv 1 (v := .slice a R.length c) rfl
    have hzr := (HB.out.ext hX).lt
    by_cases hlt : k < x.length
    case neg =>
      obtain rfl : k = x.length := by omega
      have HR := Lib.hid (flowB_yes Hle.out H.out)
      clear H
      go_wp2_with fail
      go_ret
      exact ⟨ret_int (by unfold flErr; rw [HR.out]; rfl), hE⟩
    have hltR : k < R.length := by omega
    obtain ⟨b, off, rfl, hb, c1, c2', c3, c4⟩ := hl.ext hE k hltR
    obtain ⟨b2, o2, rfl, hb2, hc2⟩ := hx.ext hE k hlt
    rw [gi_def] at hc2
    have Hq := Lib.hid (flowAt_at (f := x) hltR)
    rcases Bool.eq_false_or_eq_true (withinB (gi x k) 0 R[k].wd) with q | q
    case inr =>
      have HR := Lib.hid (flowB_no (R := R) hlt (Hq.out.trans q))
      clear H
      generalize gi x k = v at *
      generalize R[k].wd = wd at *
      go_wp2_with fail
      refine wp_region_ext (by kernel_rfl) (by kernel_rfl) ?_
      repeat (go_big_quiet_step ((go_at_call 65; exact quiet_same (f65_c _ _ _ _))))
      refine wpQuiet_nil ?_
      intro w9 hX9
      have hE9 := hE.trans' hX9
      go_wp2_with fail
      go_ret
      exact ⟨ret_int (by unfold flErr; rw [HR.out]; rfl), hE9⟩
    · have Hy := Lib.hid (Hq.out.trans q)
      clear Hq
      generalize gi x k = v at *
      generalize R[k].wd = wd at *
      go_wp2_with fail
      refine wp_region_ext (by kernel_rfl) (by kernel_rfl) ?_
      repeat (go_big_quiet_step ((go_at_call 65; exact quiet_same (f65_c _ _ _ _))))
      refine wpQuiet_nil ?_
      intro w9 hX9
      have hE9 := hE.trans' hX9
      go_wp2_with fail
      go_roundw
      case rel =>
        refine ⟨k + 1, by omega, by go_num, hX.trans' hX9, Lib.hid (fun j hj => ?_)⟩
        rcases Nat.lt_or_ge j k with e | e
        · exact H.out j e
        · obtain rfl : j = k := by omega
          exact Hy.out
      case measure => simp [intOf]; omega
set_option maxHeartbeats 4000000 in
theorem f60_c (N : Int) (a : Option Addr) (n c : Nat) (R : List Road) (a2 : Option Addr) (n2 c2 : Nat) (x : List Int) (w : World) (hl : Roads w a R) (hn : R.length = n) (hlen : n ≤ 140737488355328) (hx : Ints w a2 x) (hn2 : x.length = n2) (hlen2 : n2 ≤ 1000000) (hok : NetOk N R) (hf : flowB R x = true) :
    Calls Try.prog 60 #[.agg #[.int .i64 N, .slice a n c], .slice a2 n2 c2] w fun e w' => e = .returned (.int .i64 (costTo R x R.length)) ∧ Ext w w' := by
  subst hn hn2
  obtain ⟨hle, hfl⟩ := flowB_ok hf
  have h12 := hok.r12
  have hle2 : x.length ≤ R.length ∧ R.length ≤ x.length := by omega
  have Hle := Lib.hid hle
  have Hbd := Lib.hid (fun k (hk : k ≤ R.length) => costTo_bd hok hfl hk)
  have Hln := Lib.hid hok.ln
  have Hfl := Lib.hid hfl
  have Hwd := Lib.hid hok.wd
  clear hle hfl hf hok
  have hE0 := ext_alloc w (.cells #[.int .i64 N, .slice a R.length c] 24)
  have HB := Lib.hid (BlkC.new w #[.int .i64 N, .slice a R.length c] 24)
  have hz := HB.out.lt
  have g0 := HB.out.cellv 0 (v := .int .i64 N) rfl
  have g1 := HB.out.cellv 1 (v := .slice a R.length c) rfl
  go_enter Try.func60, Try.ntmps60
  go_wp2_with fail
  generalize (w.alloc (.cells #[.int .i64 N, .slice a R.length c] 24)) = w0 at *
  go_loopw [5, 11] (fun s i wr => ∃ k : Nat, k ≤ R.length ∧ i = .int .i64 k ∧ s = .int .i64 (costTo R x k) ∧ Ext w0 wr) (fun _ i _ => R.length - (intOf i).toNat)
  case atStart => exact ⟨0, Nat.zero_le _, rfl, rfl, Below.refl _ _⟩
  case round =>
    obtain ⟨k, hk, rfl, rfl, hX⟩ := hrel
    have hE := hE0.trans' hX
    clear g0 g1
    have g0 := (HB.out.ext hX).cellv 0 (v := .int .i64 N) rfl
    have g1 := (HB.out.ext hX).cellv 1 (v := .slice a R.length c) rfl
    have hzr := (HB.out.ext hX).lt
    by_cases hlt : k < R.length
    case neg =>
      obtain rfl : k = R.length := by omega
      go_wp2_with fail
      go_ret
      exact ⟨rfl, hE⟩
    have hltx : k < x.length := by omega
    obtain ⟨b, off, rfl, hb, c1, c2', c3, c4⟩ := hl.ext hE k hlt
    obtain ⟨b2, o2, rfl, hb2, hc2⟩ := hx.ext hE k hltx
    rw [gi_def] at hc2
    have Hs : Hid (costTo R x (k + 1) = costTo R x k + R[k].ln * gi x k) := Lib.hid (by unfold costTo; simp only [sumR]; rw [rdK_at hlt])
    have b0 := Hbd.out k hk
    have b3 := Hln.out k hlt
    have b4 := Hfl.out k hlt
    have b5 := Hwd.out k hlt
    rw [rdK_at hlt] at b4
    have b1 : 0 ≤ R[k].ln * gi x k ∧ R[k].ln * gi x k ≤ 5940 := by
      refine ⟨Int.mul_nonneg b3.1 b4.1, ?_⟩
      have := Int.mul_le_mul b3.2 (show gi x k ≤ 60 by omega) b4.1 (by omega)
      omega
    generalize costTo R x k = A at *
    generalize gi x k = v at *
    generalize R[k].ln = ln at *
    generalize R[k].wd = wd at *
    generalize R[k].fr = fr at *
    generalize R[k].to = to at *
    clear Hle Hbd Hln Hfl Hwd
    go_wp2_with fail
    refine wp_region_ext (by kernel_rfl) (by kernel_rfl) ?_
    repeat (go_big_quiet_step (fail))
    refine wpQuiet_nil ?_
    intro w9 hX9
    go_wp2_with fail
    go_roundw
    case rel => exact ⟨k + 1, by omega, by go_num, by rw [Hs.out], hX.trans' ((ext_alloc _ _).trans' hX9)⟩
    case measure => simp [intOf]; omega
set_option maxHeartbeats 4000000 in
theorem f63_c (N : Int) (a : Option Addr) (n c : Nat) (R : List Road) (a2 : Option Addr) (n2 c2 : Nat) (x : List Int) (w : World) (hl : Roads w a R) (hn : R.length = n) (hlen : n ≤ 140737488355328) (hx : Ints w a2 x) (hn2 : x.length = n2) (hlen2 : n2 ≤ 1000000) (hok : NetOk N R) (hf : flowB R x = true) :
    Calls Try.prog 63 #[.agg #[.int .i64 N, .slice a n c], .slice a2 n2 c2] w fun e w' => e = .returned (.int .i64 (costTo R x R.length)) ∧ Ext w w' := by
  subst hn hn2
  obtain ⟨hle, hfl⟩ := flowB_ok hf
  have h12 := hok.r12
  have hle2 : x.length ≤ R.length ∧ R.length ≤ x.length := by omega
  have Hle := Lib.hid hle
  have Hbd := Lib.hid (fun k (hk : k ≤ R.length) => costTo_bd hok hfl hk)
  have Hln := Lib.hid hok.ln
  have Hfl := Lib.hid hfl
  have Hwd := Lib.hid hok.wd
  clear hle hfl hf hok
  have hE0 := ext_alloc w (.cells #[.int .i64 N, .slice a R.length c] 24)
  have HB := Lib.hid (BlkC.new w #[.int .i64 N, .slice a R.length c] 24)
  have hz := HB.out.lt
  have g0 := HB.out.cellv 0 (v := .int .i64 N) rfl
  have g1 := HB.out.cellv 1 (v := .slice a R.length c) rfl
  go_enter Try.func63, Try.ntmps63
  go_wp2_with fail
  generalize (w.alloc (.cells #[.int .i64 N, .slice a R.length c] 24)) = w0 at *
  go_loopw [5, 6] (fun s i wr => ∃ k : Nat, k ≤ R.length ∧ i = .int .i64 k ∧ s = .int .i64 (costTo R x k) ∧ Ext w0 wr) (fun _ i _ => R.length - (intOf i).toNat)
  case atStart => exact ⟨0, Nat.zero_le _, rfl, rfl, Below.refl _ _⟩
  case round =>
    obtain ⟨k, hk, rfl, rfl, hX⟩ := hrel
    have hE := hE0.trans' hX
    clear g0 g1
    have g0 := (HB.out.ext hX).cellv 0 (v := .int .i64 N) rfl
    have g1 := (HB.out.ext hX).cellv 1 (v := .slice a R.length c) rfl
    have hzr := (HB.out.ext hX).lt
    by_cases hlt : k < R.length
    case neg =>
      obtain rfl : k = R.length := by omega
      go_wp2_with fail
      go_ret
      exact ⟨rfl, hE⟩
    have hltx : k < x.length := by omega
    obtain ⟨b, off, rfl, hb, c1, c2', c3, c4⟩ := hl.ext hE k hlt
    obtain ⟨b2, o2, rfl, hb2, hc2⟩ := hx.ext hE k hltx
    rw [gi_def] at hc2
    have Hs : Hid (costTo R x (k + 1) = costTo R x k + R[k].ln * gi x k) := Lib.hid (by unfold costTo; simp only [sumR]; rw [rdK_at hlt])
    have b0 := Hbd.out k hk
    have b3 := Hln.out k hlt
    have b4 := Hfl.out k hlt
    have b5 := Hwd.out k hlt
    rw [rdK_at hlt] at b4
    have b1 : 0 ≤ R[k].ln * gi x k ∧ R[k].ln * gi x k ≤ 5940 := by
      refine ⟨Int.mul_nonneg b3.1 b4.1, ?_⟩
      have := Int.mul_le_mul b3.2 (show gi x k ≤ 60 by omega) b4.1 (by omega)
      omega
    generalize costTo R x k = A at *
    generalize gi x k = v at *
    generalize R[k].ln = ln at *
    generalize R[k].wd = wd at *
    generalize R[k].fr = fr at *
    generalize R[k].to = to at *
    clear Hle Hbd Hln Hfl Hwd
    go_wp2_with fail
    refine wp_region_ext (by kernel_rfl) (by kernel_rfl) ?_
    repeat (go_big_quiet_step (fail))
    refine wpQuiet_nil ?_
    intro w9 hX9
    go_wp2_with fail
    go_roundw
    case rel => exact ⟨k + 1, by omega, by go_num, by rw [Hs.out], hX.trans' hX9⟩
    case measure => simp [intOf]; omega
def sameI (l m : List Int) : Bool := decide (l = m)
theorem list_ext_gi {l m : List Int} (h : l.length = m.length) (hh : ∀ j, j < l.length → gi l j = gi m j) : l = m :=
  List.ext_getElem h fun j h1 h2 => by rw [← gi_at h1, ← gi_at h2]; exact hh j h1
theorem sameI_len {l m : List Int} (h : l.length ≠ m.length) : sameI l m = false := by
  simp only [sameI, decide_eq_false_iff_not]; intro e; exact h (by rw [e])
theorem sameI_at {l m : List Int} {k : Nat} (h : gi l k ≠ gi m k) : sameI l m = false := by
  simp only [sameI, decide_eq_false_iff_not]; intro e; exact h (by rw [e])
theorem sameI_yes {l m : List Int} (h : l.length = m.length) (hh : ∀ j, j < l.length → gi l j = gi m j) : sameI l m = true := by
  simp only [sameI, decide_eq_true_eq]; exact list_ext_gi h hh
set_option maxHeartbeats 1000000 in
theorem f34_c (a b : Option Addr) (n c m d : Nat) (l k : List Int) (w : World) (hl : Ints w a l) (hk : Ints w b k) (hn : l.length = n) (hm : k.length = m) (hlen : n ≤ 1000000) (hlen2 : m ≤ 1000000) :
    Calls Try.prog 34 #[.slice a n c, .slice b m d] w fun e w' => e = .returned (.bool (sameI l k)) ∧ Ext w w' := by
  by_cases h : n = m
  case neg =>
    have hd : ((n : Int) != (m : Int)) = true := by simp; omega
    have Hs := Lib.hid (sameI_len (l := l) (m := k) (by omega))
    clear h
    go_enter Try.func34, Try.ntmps34
    go_wp2_with fail
    go_ret
    exact ⟨ret_bool Hs.out.symm, Below.refl _ _⟩
  have hd : ((n : Int) != (m : Int)) = false := by simp [h]
  have h2 := Lib.hid h
  subst hn
  clear h
  go_enter Try.func34, Try.ntmps34
  go_wp2_with fail
  go_loopw [5] (fun i wr => ∃ q : Nat, q ≤ l.length ∧ i = .int .i64 q ∧ Ext w wr ∧ Hid (∀ j, j < q → gi l j = gi k j)) (fun i _ => l.length - (intOf i).toNat)
  case atStart => exact ⟨0, Nat.zero_le _, rfl, Below.refl _ _, Lib.hid (fun j hj => by omega)⟩
  case round =>
    obtain ⟨q, hq, rfl, hE, H⟩ := hrel
    by_cases hlt : q < l.length
    · have h3 := h2.out
      obtain ⟨b1, o1, rfl, hb1, hc1⟩ := hl.ext hE q hlt
      obtain ⟨b2, o2, rfl, hb2, hc2⟩ := hk.ext hE q (by omega)
      have hltm : q < m := by omega
      clear h3
      rw [gi_def] at hc1 hc2
      by_cases he : gi l q = gi k q
      · have He := Lib.hid he
        rw [← he] at hc2
        clear he
        go_wp2_with fail
        refine wp_region_ext (by kernel_rfl) (by kernel_rfl) ?_
        repeat (go_big_quiet_step (fail))
        refine wpQuiet_nil ?_
        intro w1 hE1
        go_wp2_with fail
        go_roundw
        case rel =>
          refine ⟨q + 1, by omega, by go_num, hE.trans' hE1, Lib.hid (fun j hj => ?_)⟩
          by_cases e : j = q
          · subst e; exact He.out
          · exact H.out j (by omega)
        case measure => simp [intOf]; omega
      · have He := Lib.hid (sameI_at he)
        have hd2 : (gi l q != gi k q) = true := by simp [he]
        clear he
        go_wp2_with fail
        refine wp_region_ext (by kernel_rfl) (by kernel_rfl) ?_
        repeat (go_big_quiet_step (fail))
        refine wpQuiet_nil ?_
        intro w1 hE1
        go_wp2_with fail
        go_ret
        exact ⟨ret_bool He.out.symm, hE.trans' hE1⟩
    · obtain rfl : q = l.length := by omega
      go_wp2_with fail
      go_ret
      exact ⟨ret_bool (sameI_yes (by have := h2.out; omega) H.out).symm, hE⟩
set_option maxHeartbeats 1000000 in
theorem f58_c (a b : Option Addr) (n c m d : Nat) (l k : List Int) (w : World) (hl : Ints w a l) (hk : Ints w b k) (hn : l.length = n) (hm : k.length = m) (hlen : n ≤ 1000000) (hlen2 : m ≤ 1000000) :
    Calls Try.prog 58 #[.slice a n c, .slice b m d] w fun e w' => e = .returned (.bool (sameI l k)) ∧ Ext w w' := by
  by_cases h : n = m
  case neg =>
    have hd : ((n : Int) != (m : Int)) = true := by simp; omega
    have Hs := Lib.hid (sameI_len (l := l) (m := k) (by omega))
    clear h
    go_enter Try.func58, Try.ntmps58
    go_wp2_with fail
    go_ret
    exact ⟨ret_bool Hs.out.symm, Below.refl _ _⟩
  have hd : ((n : Int) != (m : Int)) = false := by simp [h]
  have h2 := Lib.hid h
  subst hn
  clear h
  go_enter Try.func58, Try.ntmps58
  go_wp2_with fail
  go_loopw [13] (fun i wr => ∃ q : Nat, q ≤ l.length ∧ i = .int .i64 q ∧ Ext w wr ∧ Hid (∀ j, j < q → gi l j = gi k j)) (fun i _ => l.length - (intOf i).toNat)
  case atStart => exact ⟨0, Nat.zero_le _, rfl, Below.refl _ _, Lib.hid (fun j hj => by omega)⟩
  case round =>
    obtain ⟨q, hq, rfl, hE, H⟩ := hrel
    by_cases hlt : q < l.length
    · have h3 := h2.out
      obtain ⟨b1, o1, rfl, hb1, hc1⟩ := hl.ext hE q hlt
      obtain ⟨b2, o2, rfl, hb2, hc2⟩ := hk.ext hE q (by omega)
      have hltm : q < m := by omega
      clear h3
      rw [gi_def] at hc1 hc2
      by_cases he : gi l q = gi k q
      · have He := Lib.hid he
        rw [← he] at hc2
        clear he
        go_wp2_with fail
        refine wp_region_ext (by kernel_rfl) (by kernel_rfl) ?_
        repeat (go_big_quiet_step (fail))
        refine wpQuiet_nil ?_
        intro w1 hE1
        go_wp2_with fail
        go_roundw
        case rel =>
          refine ⟨q + 1, by omega, by go_num, hE.trans' hE1, Lib.hid (fun j hj => ?_)⟩
          by_cases e : j = q
          · subst e; exact He.out
          · exact H.out j (by omega)
        case measure => simp [intOf]; omega
      · have He := Lib.hid (sameI_at he)
        have hd2 : (gi l q != gi k q) = true := by simp [he]
        clear he
        go_wp2_with fail
        refine wp_region_ext (by kernel_rfl) (by kernel_rfl) ?_
        repeat (go_big_quiet_step (fail))
        refine wpQuiet_nil ?_
        intro w1 hE1
        go_wp2_with fail
        go_ret
        exact ⟨ret_bool He.out.symm, hE.trans' hE1⟩
    · obtain rfl : q = l.length := by omega
      go_wp2_with fail
      go_ret
      exact ⟨ret_bool (sameI_yes (by have := h2.out; omega) H.out).symm, hE⟩
end Go.Proofs.Ytbejgbflipoboaa
