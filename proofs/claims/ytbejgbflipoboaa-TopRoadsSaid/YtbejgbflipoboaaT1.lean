/- Contracts of roads: within, Validate, Long, many, large. -/
import Derived.WalkKit
import Derived.WalkSpells
import Derived.WalkLawsBesides
import Derived.Deep.QuietTactic
import Derived.BigQuiet
import Derived.Lib.Hide
import Derived.Test.YtbejgbflipoboaaProg
import Derived.Test.YtbejgbflipoboaaP2
import Derived.Test.YtbejgbflipoboaaP1
namespace Go.Proofs.Ytbejgbflipoboaa
open Go.RowKit
attribute [local go_sem] GW.cell
theorem roadOk_mk {N : Int} {r : Road} (h1 : withinB r.fr 0 (N - 1) = true) (h2 : withinB r.to 0 (N - 1) = true) (h3 : r.fr ≠ r.to) (h4 : withinB r.ln 0 99 = true) (h5 : withinB r.wd 0 60 = true) : roadOk N r = true := by
  unfold roadOk; rw [h1, h2, h4, h5]; simp [h3]
theorem netErr_bad {N : Int} {R : List Road} (h1 : withinB N 1 6 = true) (h2 : R.length ≤ 12) {k : Nat} (hk : k < R.length) (h : roadOk N R[k] = false) : netErr N R = 1 := by
  unfold netErr; rw [if_pos h1, if_neg (by omega), all_no hk h]; simp
theorem netErr_mk {N : Int} {R : List Road} (h1 : withinB N 1 6 = true) (h2 : R.length ≤ 12) (h : ∀ j, (hj : j < R.length) → roadOk N R[j] = true) : netErr N R = 0 := by
  unfold netErr; rw [if_pos h1, if_neg (by omega), all_yes h]; simp
theorem f64_c (n lo hi : Int) (w : World) :
    Calls Try.prog 64 #[.int .i64 n, .int .i64 lo, .int .i64 hi] w fun e w' => e = .returned (.bool (withinB n lo hi)) ∧ w = w' := by
  go_enter Try.func64, Try.ntmps64
  go_wp2
  all_goals (go_ret; exact ⟨ret_bool (by simp [withinB]; try omega), rfl⟩)
theorem f65_c (n lo hi : Int) (w : World) :
    Calls Try.prog 65 #[.int .i64 n, .int .i64 lo, .int .i64 hi] w fun e w' => e = .returned (.bool (withinB n lo hi)) ∧ w = w' := by
  go_enter Try.func65, Try.ntmps65
  go_wp2
  all_goals (go_ret; exact ⟨ret_bool (by simp [withinB]; try omega), rfl⟩)
set_option maxHeartbeats 4000000 in
theorem f22_c (N : Int) (a : Option Addr) (n c : Nat) (R : List Road) (w : World) (hl : Roads w a R) (hn : R.length = n) (hlen : n ≤ 140737488355328) :
    Calls Try.prog 22 #[.agg #[.int .i64 N, .slice a n c]] w fun e w' => e = .returned (.int .i64 (netErr N R)) ∧ Ext w w' := by
  subst hn
  have hE0 := ext_alloc w (.cells #[.int .i64 N, .slice a R.length c] 24)
  have HB := Lib.hid (BlkC.new w #[.int .i64 N, .slice a R.length c] 24)
  have hz := HB.out.lt
  have g0 := HB.out.cellv 0 (v := .int .i64 N) rfl
  have g1 := HB.out.cellv 1 (v := .slice a R.length c) rfl
  go_enter Try.func22, Try.ntmps22
  go_wp2_with fail
  generalize (w.alloc (.cells #[.int .i64 N, .slice a R.length c] 24)) = w0 at *
  refine (f64_c _ _ _ _).mono ?_
  rintro e w9 ⟨rfl, rfl⟩
  rcases Bool.eq_false_or_eq_true (withinB N 1 6) with h1 | h1
  case inr =>
    have HR : Hid (netErr N R = 1) := Lib.hid (by unfold netErr; rw [h1]; simp)
    rw [h1]
    go_wp2_with fail
    go_ret
    exact ⟨ret_int HR.out.symm, hE0⟩
  have H1 := Lib.hid h1
  rw [h1]
  have hN := withinB_iff.1 h1
  clear h1
  by_cases h2 : 12 < R.length
  · have HR : Hid (netErr N R = 3) := Lib.hid (by unfold netErr; rw [if_pos H1.out, if_pos h2])
    have hd : decide ((12 : Int) < (R.length : Int)) = true := decide_eq_true (by omega)
    go_wp2_with fail
    go_ret
    exact ⟨ret_int HR.out.symm, hE0⟩
  have hr12 : R.length ≤ 12 := by omega
  have hd : decide ((12 : Int) < (R.length : Int)) = false := decide_eq_false (by omega)
  clear h2
  go_wp2_with fail
  go_loopw [16] (fun i wr => ∃ k : Nat, k ≤ R.length ∧ i = .int .i64 k ∧ Ext w0 wr ∧ Hid (∀ j, (hj : j < R.length) → j < k → roadOk N R[j] = true)) (fun i _ => R.length - (intOf i).toNat)
  case atStart => exact ⟨0, Nat.zero_le _, rfl, Below.refl _ _, Lib.hid (fun j hj h => by omega)⟩
  case round =>
    obtain ⟨k, hk, rfl, hX, H⟩ := hrel
    have hE := hE0.trans' hX
    clear g0 g1 hd
    have HBc := HB.out.ext hX
    have g0 := HBc.cellv 0 (v := .int .i64 N) rfl
    have g1 := HBc.cellv 1 (v := .slice a R.length c) rfl
    have hzr := HBc.lt
    clear HBc
    by_cases hlt : k < R.length
    · obtain ⟨b, off, rfl, hb, c1, c2, c3, c4⟩ := hl.ext hE k hlt
      have HBn := (HB.out.ext hX).ext (ext_alloc wr (.cells #[.int .i64 R[k].fr, .int .i64 R[k].to, .int .i64 R[k].ln, .int .i64 R[k].wd] 55))
      rcases Bool.eq_false_or_eq_true (withinB R[k].fr 0 (N - 1)) with q1 | q1
      case inr =>
        go_wp2_with fail
        refine (f64_c _ _ _ _).mono ?_
        rintro e w9 ⟨rfl, rfl⟩
        rw [q1]
        have HR := Lib.hid (netErr_bad H1.out hr12 hlt (by unfold roadOk; rw [q1]; simp))
        clear H
        go_wp2_with fail
        go_ret
        exact ⟨ret_int HR.out.symm, hE.trans' (ext_alloc _ _)⟩
      rcases Bool.eq_false_or_eq_true (withinB R[k].to 0 (N - 1)) with q2 | q2
      case inr =>
        go_wp2_with fail
        refine (f64_c _ _ _ _).mono ?_
        rintro e w9 ⟨rfl, rfl⟩
        rw [q1]
        go_wp2_with fail
        refine (f64_c _ _ _ _).mono ?_
        rintro e w9 ⟨rfl, rfl⟩
        rw [q2]
        have HR := Lib.hid (netErr_bad H1.out hr12 hlt (by unfold roadOk; rw [q2]; simp))
        clear H
        go_wp2_with fail
        go_ret
        exact ⟨ret_int HR.out.symm, hE.trans' (ext_alloc _ _)⟩
      by_cases q3 : R[k].fr = R[k].to
      · have qb : (R[k].fr == R[k].to) = true := by simpa using q3
        have Q3 := Lib.hid q3
        clear q3
        go_wp2_with fail
        refine (f64_c _ _ _ _).mono ?_
        rintro e w9 ⟨rfl, rfl⟩
        rw [q1]
        go_wp2_with fail
        refine (f64_c _ _ _ _).mono ?_
        rintro e w9 ⟨rfl, rfl⟩
        rw [q2]
        have HR := Lib.hid (netErr_bad H1.out hr12 hlt (by unfold roadOk; simp [Q3.out]))
        clear H
        go_wp2_with fail
        go_ret
        exact ⟨ret_int HR.out.symm, hE.trans' (ext_alloc _ _)⟩
      have qb : (R[k].fr == R[k].to) = false := by simpa using q3
      rcases Bool.eq_false_or_eq_true (withinB R[k].ln 0 99) with q4 | q4
      case inr =>
        go_wp2_with fail
        refine (f64_c _ _ _ _).mono ?_
        rintro e w9 ⟨rfl, rfl⟩
        rw [q1]
        go_wp2_with fail
        refine (f64_c _ _ _ _).mono ?_
        rintro e w9 ⟨rfl, rfl⟩
        rw [q2]
        go_wp2_with fail
        refine (f64_c _ _ _ _).mono ?_
        rintro e w9 ⟨rfl, rfl⟩
        rw [q4]
        have HR := Lib.hid (netErr_bad H1.out hr12 hlt (by unfold roadOk; rw [q4]; simp))
        clear H
        go_wp2_with fail
        go_ret
        exact ⟨ret_int HR.out.symm, hE.trans' (ext_alloc _ _)⟩
      rcases Bool.eq_false_or_eq_true (withinB R[k].wd 0 60) with q5 | q5
      case inr =>
        go_wp2_with fail
        refine (f64_c _ _ _ _).mono ?_
        rintro e w9 ⟨rfl, rfl⟩
        rw [q1]
        go_wp2_with fail
        refine (f64_c _ _ _ _).mono ?_
        rintro e w9 ⟨rfl, rfl⟩
        rw [q2]
        go_wp2_with fail
        refine (f64_c _ _ _ _).mono ?_
        rintro e w9 ⟨rfl, rfl⟩
        rw [q4]
        go_wp2_with fail
        refine (f64_c _ _ _ _).mono ?_
        rintro e w9 ⟨rfl, rfl⟩
        rw [q5]
        have HR := Lib.hid (netErr_bad H1.out hr12 hlt (by unfold roadOk; rw [q5]; simp))
        clear H
        go_wp2_with fail
        go_ret
        exact ⟨ret_int HR.out.symm, hE.trans' (ext_alloc _ _)⟩
      have Hg := Lib.hid (roadOk_mk q1 q2 q3 q4 q5)
      go_wp2_with fail
      refine (f64_c _ _ _ _).mono ?_
      rintro e w9 ⟨rfl, rfl⟩
      rw [q1]
      go_wp2_with fail
      refine (f64_c _ _ _ _).mono ?_
      rintro e w9 ⟨rfl, rfl⟩
      rw [q2]
      go_wp2_with fail
      refine (f64_c _ _ _ _).mono ?_
      rintro e w9 ⟨rfl, rfl⟩
      rw [q4]
      go_wp2_with fail
      refine (f64_c _ _ _ _).mono ?_
      rintro e w9 ⟨rfl, rfl⟩
      rw [q5]
      go_wp2_with fail
      go_roundw
      case rel =>
        refine ⟨k + 1, by omega, by go_num, hX.trans' (ext_alloc _ _), Lib.hid (fun j hj h => ?_)⟩
        rcases Nat.lt_or_ge j k with e | e
        · exact H.out j hj e
        · obtain rfl : j = k := by omega
          exact Hg.out
      case measure => simp [intOf]; omega
    · have HR := Lib.hid (netErr_mk H1.out hr12 (fun j hj => H.out j hj (by omega)))
      clear H
      go_wp2_with fail
      go_ret
      exact ⟨ret_int HR.out.symm, hE⟩
set_option maxHeartbeats 4000000 in
theorem f23_c (N : Int) (a : Option Addr) (n c : Nat) (R : List Road) (w : World) (hl : Roads w a R) (hn : R.length = n) (hlen : n ≤ 140737488355328) :
    Calls Try.prog 23 #[.agg #[.int .i64 N, .slice a n c]] w fun e w' => e = .returned (.int .i64 (netErr N R)) ∧ Ext w w' := by
  subst hn
  have hE0 := ext_alloc w (.cells #[.int .i64 N, .slice a R.length c] 24)
  have HB := Lib.hid (BlkC.new w #[.int .i64 N, .slice a R.length c] 24)
  have hz := HB.out.lt
  have g0 := HB.out.cellv 0 (v := .int .i64 N) rfl
  have g1 := HB.out.cellv 1 (v := .slice a R.length c) rfl
  go_enter Try.func23, Try.ntmps23
  go_wp2_with fail
  generalize (w.alloc (.cells #[.int .i64 N, .slice a R.length c] 24)) = w0 at *
  refine (f65_c _ _ _ _).mono ?_
  rintro e w9 ⟨rfl, rfl⟩
  rcases Bool.eq_false_or_eq_true (withinB N 1 6) with h1 | h1
  case inr =>
    have HR : Hid (netErr N R = 1) := Lib.hid (by unfold netErr; rw [h1]; simp)
    rw [h1]
    go_wp2_with fail
    go_ret
    exact ⟨ret_int HR.out.symm, hE0⟩
  have H1 := Lib.hid h1
  rw [h1]
  have hN := withinB_iff.1 h1
  clear h1
  by_cases h2 : 12 < R.length
  · have HR : Hid (netErr N R = 3) := Lib.hid (by unfold netErr; rw [if_pos H1.out, if_pos h2])
    have hd : decide ((12 : Int) < (R.length : Int)) = true := decide_eq_true (by omega)
    go_wp2_with fail
    go_ret
    exact ⟨ret_int HR.out.symm, hE0⟩
  have hr12 : R.length ≤ 12 := by omega
  have hd : decide ((12 : Int) < (R.length : Int)) = false := decide_eq_false (by omega)
  clear h2
  go_wp2_with fail
  go_loopw [3] (fun i wr => ∃ k : Nat, k ≤ R.length ∧ i = .int .i64 k ∧ Ext w0 wr ∧ Hid (∀ j, (hj : j < R.length) → j < k → roadOk N R[j] = true)) (fun i _ => R.length - (intOf i).toNat)
  case atStart => exact ⟨0, Nat.zero_le _, rfl, Below.refl _ _, Lib.hid (fun j hj h => by omega)⟩
  case round =>
    obtain ⟨k, hk, rfl, hX, H⟩ := hrel
    have hE := hE0.trans' hX
    clear g0 g1 hd
    have HBc := HB.out.ext hX
    have g0 := HBc.cellv 0 (v := .int .i64 N) rfl
    have g1 := HBc.cellv 1 (v := .slice a R.length c) rfl
    have hzr := HBc.lt
    clear HBc
    by_cases hlt : k < R.length
    · obtain ⟨b, off, rfl, hb, c1, c2, c3, c4⟩ := hl.ext hE k hlt
      have HBn := (HB.out.ext hX).ext (ext_alloc wr (.cells #[.int .i64 R[k].fr, .int .i64 R[k].to, .int .i64 R[k].ln, .int .i64 R[k].wd] 55))
      rcases Bool.eq_false_or_eq_true (withinB R[k].fr 0 (N - 1)) with q1 | q1
      case inr =>
        go_wp2_with fail
        refine (f65_c _ _ _ _).mono ?_
        rintro e w9 ⟨rfl, rfl⟩
        rw [q1]
        have HR := Lib.hid (netErr_bad H1.out hr12 hlt (by unfold roadOk; rw [q1]; simp))
        clear H
        go_wp2_with fail
        go_ret
        exact ⟨ret_int HR.out.symm, hE.trans' (ext_alloc _ _)⟩
      rcases Bool.eq_false_or_eq_true (withinB R[k].to 0 (N - 1)) with q2 | q2
      case inr =>
        go_wp2_with fail
        refine (f65_c _ _ _ _).mono ?_
        rintro e w9 ⟨rfl, rfl⟩
        rw [q1]
        go_wp2_with fail
        refine (f65_c _ _ _ _).mono ?_
        rintro e w9 ⟨rfl, rfl⟩
        rw [q2]
        have HR := Lib.hid (netErr_bad H1.out hr12 hlt (by unfold roadOk; rw [q2]; simp))
        clear H
        go_wp2_with fail
        go_ret
        exact ⟨ret_int HR.out.symm, hE.trans' (ext_alloc _ _)⟩
      by_cases q3 : R[k].fr = R[k].to
      · have qb : (R[k].fr == R[k].to) = true := by simpa using q3
        have Q3 := Lib.hid q3
        clear q3
        go_wp2_with fail
        refine (f65_c _ _ _ _).mono ?_
        rintro e w9 ⟨rfl, rfl⟩
        rw [q1]
        go_wp2_with fail
        refine (f65_c _ _ _ _).mono ?_
        rintro e w9 ⟨rfl, rfl⟩
        rw [q2]
        have HR := Lib.hid (netErr_bad H1.out hr12 hlt (by unfold roadOk; simp [Q3.out]))
        clear H
        go_wp2_with fail
        go_ret
        exact ⟨ret_int HR.out.symm, hE.trans' (ext_alloc _ _)⟩
      have qb : (R[k].fr == R[k].to) = false := by simpa using q3
      rcases Bool.eq_false_or_eq_true (withinB R[k].ln 0 99) with q4 | q4
      case inr =>
        go_wp2_with fail
        refine (f65_c _ _ _ _).mono ?_
        rintro e w9 ⟨rfl, rfl⟩
        rw [q1]
        go_wp2_with fail
        refine (f65_c _ _ _ _).mono ?_
        rintro e w9 ⟨rfl, rfl⟩
        rw [q2]
        go_wp2_with fail
        refine (f65_c _ _ _ _).mono ?_
        rintro e w9 ⟨rfl, rfl⟩
        rw [q4]
        have HR := Lib.hid (netErr_bad H1.out hr12 hlt (by unfold roadOk; rw [q4]; simp))
        clear H
        go_wp2_with fail
        go_ret
        exact ⟨ret_int HR.out.symm, hE.trans' (ext_alloc _ _)⟩
      rcases Bool.eq_false_or_eq_true (withinB R[k].wd 0 60) with q5 | q5
      case inr =>
        go_wp2_with fail
        refine (f65_c _ _ _ _).mono ?_
        rintro e w9 ⟨rfl, rfl⟩
        rw [q1]
        go_wp2_with fail
        refine (f65_c _ _ _ _).mono ?_
        rintro e w9 ⟨rfl, rfl⟩
        rw [q2]
        go_wp2_with fail
        refine (f65_c _ _ _ _).mono ?_
        rintro e w9 ⟨rfl, rfl⟩
        rw [q4]
        go_wp2_with fail
        refine (f65_c _ _ _ _).mono ?_
        rintro e w9 ⟨rfl, rfl⟩
        rw [q5]
        have HR := Lib.hid (netErr_bad H1.out hr12 hlt (by unfold roadOk; rw [q5]; simp))
        clear H
        go_wp2_with fail
        go_ret
        exact ⟨ret_int HR.out.symm, hE.trans' (ext_alloc _ _)⟩
      have Hg := Lib.hid (roadOk_mk q1 q2 q3 q4 q5)
      go_wp2_with fail
      refine (f65_c _ _ _ _).mono ?_
      rintro e w9 ⟨rfl, rfl⟩
      rw [q1]
      go_wp2_with fail
      refine (f65_c _ _ _ _).mono ?_
      rintro e w9 ⟨rfl, rfl⟩
      rw [q2]
      go_wp2_with fail
      refine (f65_c _ _ _ _).mono ?_
      rintro e w9 ⟨rfl, rfl⟩
      rw [q4]
      go_wp2_with fail
      refine (f65_c _ _ _ _).mono ?_
      rintro e w9 ⟨rfl, rfl⟩
      rw [q5]
      go_wp2_with fail
      go_roundw
      case rel =>
        refine ⟨k + 1, by omega, by go_num, hX.trans' (ext_alloc _ _), Lib.hid (fun j hj h => ?_)⟩
        rcases Nat.lt_or_ge j k with e | e
        · exact H.out j hj e
        · obtain rfl : j = k := by omega
          exact Hg.out
      case measure => simp [intOf]; omega
    · have HR := Lib.hid (netErr_mk H1.out hr12 (fun j hj => H.out j hj (by omega)))
      clear H
      go_wp2_with fail
      go_ret
      exact ⟨ret_int HR.out.symm, hE⟩
theorem f31_c (N : Int) (a : Option Addr) (n c : Nat) (w : World) :
    Calls Try.prog 31 #[.agg #[.int .i64 N, .slice a n c]] w fun e w' => e = .returned (.bool (decide (60 < (n : Int)))) ∧ Ext w w' := by
  go_enter Try.func31, Try.ntmps31
  go_wp2_with fail
  go_ret
  exact ⟨rfl, ext_alloc _ _⟩
theorem f18_c (a : Option Addr) (n c : Nat) (w : World) :
    Calls Try.prog 18 #[.slice a n c] w fun e w' => e = .returned (.bool (decide (60 < (n : Int)))) ∧ w = w' := by
  go_enter Try.func18, Try.ntmps18
  go_wp2_with fail
  go_ret
  exact ⟨rfl, rfl⟩
end Go.Proofs.Ytbejgbflipoboaa
