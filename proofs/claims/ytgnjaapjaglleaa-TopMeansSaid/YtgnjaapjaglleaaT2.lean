/- Contracts of layer 7: the validity of lists of atoms; totals. -/
import Derived.Test.YtgnjaapjaglleaaT1
namespace Go.Proofs.Ytgnjaapjaglleaa
open Go.RowKit
attribute [local go_sem] GW.cell

set_option maxHeartbeats 1000000 in
theorem f50_c (a : Option Addr) (n c : Nat) (l : List Atom) (w : World) (hl : Atoms w a l) (hn : l.length = n) (hlen : n ≤ 140737488355328) :
    Calls Try.prog 50 #[.slice a n c] w fun e w' => e = .returned (.int .i64 (valAtoms l)) ∧ Ext w w' := by
  subst hn
  by_cases h40 : 40 < l.length
  · have hd : decide (40 < (l.length : Int)) = true := by simp; omega
    go_enter Try.func50, Try.ntmps50
    go_wp2_with fail
    go_ret
    exact ⟨ret_int (by unfold valAtoms listErr; rw [if_pos h40]), Below.refl _ _⟩
  · have hd : decide (40 < (l.length : Int)) = false := by simp; omega
    go_enter Try.func50, Try.ntmps50
    go_wp2_with fail
    refine (f89_c 60000 1000 _ _ _ l _ hl rfl hlen (by omega) (by omega)).mono ?_
    rintro e w1 ⟨rfl, hE⟩
    rcases Bool.eq_false_or_eq_true (isListB 60000 1000 l) with hb | hb
    all_goals
      have Hb := Lib.hid hb
      rw [hb]
      clear hb
      go_wp2_with fail
      go_ret
      exact ⟨ret_int (by unfold valAtoms listErr; rw [if_neg h40, Hb.out]; rfl), hE⟩

set_option maxHeartbeats 1000000 in
theorem f88_c (a : Option Addr) (n c : Nat) (l : List Atom) (w : World) (hl : Atoms w a l) (hn : l.length = n) (hlen : n ≤ 140737488355328) :
    Calls Try.prog 88 #[.slice a n c] w fun e w' => e = .returned (.int .i64 (valLoad l)) ∧ Ext w w' := by
  subst hn
  by_cases h40 : 6 < l.length
  · have hd : decide (6 < (l.length : Int)) = true := by simp; omega
    go_enter Try.func88, Try.ntmps88
    go_wp2_with fail
    go_ret
    exact ⟨ret_int (by unfold valLoad listErr; rw [if_pos h40]), Below.refl _ _⟩
  · have hd : decide (6 < (l.length : Int)) = false := by simp; omega
    go_enter Try.func88, Try.ntmps88
    go_wp2_with fail
    refine (f89_c 1000 30 _ _ _ l _ hl rfl hlen (by omega) (by omega)).mono ?_
    rintro e w1 ⟨rfl, hE⟩
    rcases Bool.eq_false_or_eq_true (isListB 1000 30 l) with hb | hb
    all_goals
      have Hb := Lib.hid hb
      rw [hb]
      clear hb
      go_wp2_with fail
      go_ret
      exact ⟨ret_int (by unfold valLoad listErr; rw [if_neg h40, Hb.out]; rfl), hE⟩

set_option maxHeartbeats 4000000 in
theorem f49_c (a : Option Addr) (n c : Nat) (l : List Atom) (w : World) (hl : Atoms w a l) (hn : l.length = n) (hlen : n ≤ 140737488355328) :
    Calls Try.prog 49 #[.slice a n c] w fun e w' => e = .returned (.int .i64 (valAtoms l)) ∧ Ext w w' := by
  subst hn
  by_cases h40 : 40 < l.length
  · have hd : decide (40 < (l.length : Int)) = true := by simp; omega
    go_enter Try.func49, Try.ntmps49
    go_wp2_with fail
    go_ret
    exact ⟨ret_int (by unfold valAtoms listErr; rw [if_pos h40]), Below.refl _ _⟩
  · have hd : decide (40 < (l.length : Int)) = false := by simp; omega
    go_enter Try.func49, Try.ntmps49
    go_wp2_with fail
    go_loopw [10] (fun i wr => ∃ k : Nat, k ≤ l.length ∧ i = .int .i64 k ∧ Ext w wr ∧ Hid (∀ j, j < k → goodAt 60000 1000 l j = true)) (fun i _ => l.length - (intOf i).toNat)
    case atStart => exact ⟨0, Nat.zero_le _, rfl, Below.refl _ _, fun j hj => by omega⟩
    case round =>
      obtain ⟨k, hk, rfl, hE, H⟩ := hrel
      by_cases hlt : k < l.length
      · obtain ⟨b, off, rfl, hb, hx, hy⟩ := hl.ext hE k hlt
        rcases Bool.eq_false_or_eq_true (decide (l[k].p < -60000)) with d1 | d1
        · have e1 : l[k].p < -60000 := by simpa using d1
          have Hg := Lib.hid (goodAt_place (P := 60000) (M := 1000) hlt (by rw [← Bool.not_eq_true, withinB_iff]; omega))
          go_wp2_with fail
          refine wp_region_ext (by kernel_rfl) (by kernel_rfl) ?_
          repeat (go_big_quiet_step (fail))
          refine wpQuiet_nil ?_
          intro w1 hE1
          go_wp2_with fail
          go_ret
          exact ⟨ret_int (by unfold valAtoms listErr; rw [if_neg h40, isListB_no hlt Hg.out]; rfl), hE.trans' ((ext_alloc _ _).trans' hE1)⟩
        have e1 : ¬ l[k].p < -60000 := by simpa using d1
        rcases Bool.eq_false_or_eq_true (decide (60000 < l[k].p)) with d2 | d2
        · have e2 : 60000 < l[k].p := by simpa using d2
          have Hg := Lib.hid (goodAt_place (P := 60000) (M := 1000) hlt (by rw [← Bool.not_eq_true, withinB_iff]; omega))
          go_wp2_with fail
          refine wp_region_ext (by kernel_rfl) (by kernel_rfl) ?_
          repeat (go_big_quiet_step (fail))
          refine wpQuiet_nil ?_
          intro w1 hE1
          go_wp2_with fail
          go_ret
          exact ⟨ret_int (by unfold valAtoms listErr; rw [if_neg h40, isListB_no hlt Hg.out]; rfl), hE.trans' ((ext_alloc _ _).trans' hE1)⟩
        have e2 : ¬ 60000 < l[k].p := by simpa using d2
        rcases Bool.eq_false_or_eq_true (decide (l[k].m < 1)) with d3 | d3
        · have e3 : l[k].m < 1 := by simpa using d3
          have Hg := Lib.hid (goodAt_mass (P := 60000) (M := 1000) hlt (by rw [← Bool.not_eq_true, withinB_iff]; omega))
          go_wp2_with fail
          refine wp_region_ext (by kernel_rfl) (by kernel_rfl) ?_
          repeat (go_big_quiet_step (fail))
          refine wpQuiet_nil ?_
          intro w1 hE1
          go_wp2_with fail
          go_ret
          exact ⟨ret_int (by unfold valAtoms listErr; rw [if_neg h40, isListB_no hlt Hg.out]; rfl), hE.trans' ((ext_alloc _ _).trans' hE1)⟩
        have e3 : ¬ l[k].m < 1 := by simpa using d3
        rcases Bool.eq_false_or_eq_true (decide (1000 < l[k].m)) with d4 | d4
        · have e4 : 1000 < l[k].m := by simpa using d4
          have Hg := Lib.hid (goodAt_mass (P := 60000) (M := 1000) hlt (by rw [← Bool.not_eq_true, withinB_iff]; omega))
          go_wp2_with fail
          refine wp_region_ext (by kernel_rfl) (by kernel_rfl) ?_
          repeat (go_big_quiet_step (fail))
          refine wpQuiet_nil ?_
          intro w1 hE1
          go_wp2_with fail
          go_ret
          exact ⟨ret_int (by unfold valAtoms listErr; rw [if_neg h40, isListB_no hlt Hg.out]; rfl), hE.trans' ((ext_alloc _ _).trans' hE1)⟩
        have e4 : ¬ 1000 < l[k].m := by simpa using d4
        have h1 : withinB l[k].p (-60000) 60000 = true := by rw [withinB_iff]; omega
        have h2 : withinB l[k].m 1 1000 = true := by rw [withinB_iff]; omega
        have h1 := Lib.hid h1
        have h2 := Lib.hid h2
        cases k with
        | zero =>
          simp only [Nat.zero_mul, Nat.add_zero] at hx hy
          have Hg := Lib.hid (goodAt_zero (P := 60000) (M := 1000) hlt h1.out h2.out)
          go_wp2_with fail
          refine wp_region_ext (by kernel_rfl) (by kernel_rfl) ?_
          repeat (go_big_quiet_step (fail))
          refine wpQuiet_nil ?_
          intro w1 hE1
          go_wp2_with fail
          go_roundw
          case rel =>
            refine ⟨1, by omega, by go_num, hE.trans' ((ext_alloc _ _).trans' hE1), fun j hj => ?_⟩
            rcases Nat.lt_or_ge j (1 - 1) with e | e
            · exact H.out j (by omega)
            · obtain rfl : j = 1 - 1 := by omega
              exact Hg.out
          case measure => simp [intOf]; omega
        | succ q =>
          obtain ⟨b', off', he, hb', hx', hy'⟩ := hl.ext hE q (by omega)
          simp only [Option.some.injEq, Addr.mk.injEq] at he
          obtain ⟨rfl, rfl, -⟩ := he
          rcases Bool.eq_false_or_eq_true (decide (l[q + 1].p ≤ l[q].p)) with h3 | h3
          · have e3 : l[q + 1].p ≤ l[q].p := by simpa using h3
            have Hg := Lib.hid (goodAt_down (P := 60000) (M := 1000) hlt e3)
            go_wp2_with fail
            refine wp_region_ext (by kernel_rfl) (by kernel_rfl) ?_
            repeat (go_big_quiet_step (fail))
            refine wpQuiet_nil ?_
            intro w1 hE1
            go_wp2_with fail
            go_ret
            exact ⟨ret_int (by unfold valAtoms listErr; rw [if_neg h40, isListB_no hlt Hg.out]; rfl), hE.trans' ((ext_alloc _ _).trans' hE1)⟩
          · have e3 : ¬ l[q + 1].p ≤ l[q].p := by simpa using h3
            have Hg := Lib.hid (goodAt_up (P := 60000) (M := 1000) hlt h1.out h2.out (by omega))
            go_wp2_with fail
            refine wp_region_ext (by kernel_rfl) (by kernel_rfl) ?_
            repeat (go_big_quiet_step (fail))
            refine wpQuiet_nil ?_
            intro w1 hE1
            go_wp2_with fail
            go_roundw
            case rel =>
              refine ⟨q + 1 + 1, by omega, by go_num, hE.trans' ((ext_alloc _ _).trans' hE1), fun j hj => ?_⟩
              rcases Nat.lt_or_ge j (q + 1 + 1 - 1) with e | e
              · exact H.out j (by omega)
              · obtain rfl : j = q + 1 + 1 - 1 := by omega
                exact Hg.out
            case measure => simp [intOf]; omega
      · obtain rfl : k = l.length := by omega
        go_wp2_with fail
        go_ret
        exact ⟨ret_int (by unfold valAtoms listErr; rw [if_neg h40, isListB_yes H.out]; rfl), hE⟩

end Go.Proofs.Ytgnjaapjaglleaa
