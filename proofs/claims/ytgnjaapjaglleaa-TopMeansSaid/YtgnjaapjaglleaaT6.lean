/- Contracts of layer 7: loads; weights. -/
import Derived.Test.YtgnjaapjaglleaaP3
namespace Go.Proofs.Ytgnjaapjaglleaa
open Go.RowKit
attribute [local go_sem] GW.cell

set_option maxHeartbeats 4000000 in
theorem f47_c (a : Option Addr) (n c : Nat) (l : List (List Atom)) (w : World) (hl : Loads w a l) (hn : l.length = n) (hlen : n ≤ 140737488355328) (hin : ∀ j, (hj : j < l.length) → l[j].length ≤ 140737488355328) :
    Calls Try.prog 47 #[.slice a n c] w fun e w' => e = .returned (.int .i64 (loadsErr l)) ∧ Ext w w' := by
  subst hn
  by_cases h15 : l.length < 1 ∨ 5 < l.length
  · by_cases h1 : l.length < 1
    · have hd : decide ((l.length : Int) < 1) = true := by simp; omega
      go_enter Try.func47, Try.ntmps47
      go_wp2_with fail
      go_ret
      exact ⟨ret_int (loadsErr_len h15).symm, Below.refl _ _⟩
    · have hd : decide ((l.length : Int) < 1) = false := by simp; omega
      have hd2 : decide (5 < (l.length : Int)) = true := by simp; omega
      go_enter Try.func47, Try.ntmps47
      go_wp2_with fail
      go_ret
      exact ⟨ret_int (loadsErr_len h15).symm, Below.refl _ _⟩
  · have hd : decide ((l.length : Int) < 1) = false := by simp; omega
    have hd2 : decide (5 < (l.length : Int)) = false := by simp; omega
    have H15 := Lib.hid h15
    have hl1 : 1 ≤ l.length := by omega
    have hl5 : l.length ≤ 5 := by omega
    clear h15
    go_enter Try.func47, Try.ntmps47
    go_wp2_with fail
    go_loopw [18] (fun i wr => ∃ k : Nat, k ≤ l.length ∧ i = .int .i64 k ∧ Ext w wr ∧ Hid (∀ j, (hj : j < l.length) → j < k → valLoad l[j] = 0)) (fun i _ => l.length - (intOf i).toNat)
    case atStart => exact ⟨0, Nat.zero_le _, rfl, Below.refl _ _, fun j hj h => by omega⟩
    case round =>
      obtain ⟨k, hk, rfl, hE, H⟩ := hrel
      by_cases hlt : k < l.length
      · obtain ⟨b, off, a', c', rfl, hb, hc, hi⟩ := hl.ext hE k hlt
        have hik := hin k hlt
        go_wp2_with fail
        refine (f87_c _ _ _ l[k] _ hi rfl hik).mono ?_
        rintro e w1 ⟨rfl, hE1⟩
        by_cases h0 : valLoad l[k] = 0
        · rw [h0]
          have H0 := Lib.hid h0
          clear h0
          go_wp2_with fail
          go_roundw
          case rel =>
            refine ⟨k + 1, by omega, by go_num, hE.trans' hE1, fun j hj hjk => ?_⟩
            rcases Nat.lt_or_ge j k with h | h
            · exact H.out j hj h
            · obtain rfl : j = k := by omega
              exact H0.out
          case measure => simp [intOf]; omega
        · have hb2 : (valLoad l[k] != 0) = true := by simp [h0]
          have H0 := Lib.hid h0
          clear h0
          go_wp2_with fail
          go_ret
          exact ⟨ret_int (loadsErr_hit H15.out hlt H.out H0.out).symm, hE.trans' hE1⟩
      · obtain rfl : k = l.length := by omega
        have Hv : Hid (∀ j, (hj : j < l.length) → valLoad l[j] = 0) := Lib.hid (fun j hj => H.out j hj hj)
        clear H
        go_wp2_with fail
        go_loopw [30] (fun i wq => ∃ k : Nat, k ≤ l.length ∧ i = .int .i64 k ∧ Ext w wq ∧ Hid (∀ j, (hj : j < l.length) → j < k → totalL l[j] = totalL l[0])) (fun i _ => l.length - (intOf i).toNat)
        case atStart => exact ⟨0, Nat.zero_le _, rfl, hE, fun j hj h => by omega⟩
        case round =>
          obtain ⟨k, hk, rfl, hE2, H⟩ := hrel
          by_cases hlt : k < l.length
          · obtain ⟨b, off, a', c', rfl, hb, hc, hi⟩ := hl.ext hE2 k hlt
            obtain ⟨b1, off1, a1, c1, he, hb1, hc1, hi1⟩ := hl.ext hE2 0 (by omega)
            simp only [Option.some.injEq, Addr.mk.injEq] at he
            obtain ⟨rfl, rfl, -⟩ := he
            simp only [Nat.add_zero] at hc1
            have F1 := Lib.hid (fine_load (Hv.out k hlt))
            have F2 := Lib.hid (fine_load (Hv.out 0 (by omega)))
            by_cases h3 : totalL l[k] = totalL l[0]
            · have hb3 : (totalL l[k] != totalL l[0]) = false := by simp [h3]
              have H3 := Lib.hid h3
              clear h3
              go_wp2_with fail
              refine wp_region_ext (by kernel_rfl) (by kernel_rfl) ?_
              repeat (go_big_quiet_step (fail))
              go_big_quiet_step ((go_at_call 65; refine quiet_ext (f65_c a' _ c' l[k] _ ?_ rfl F1.out); exact hi.ext (GW.ext _)))
              repeat (go_big_quiet_step (fail))
              go_big_quiet_step ((go_at_call 65; refine quiet_ext (f65_c a1 _ c1 l[0] _ ?_ rfl F2.out); exact hi1.ext (GW.ext _)))
              repeat (go_big_quiet_step (fail))
              refine wpQuiet_nil ?_
              intro w3 hE3
              go_wp2_with fail
              go_roundw
              case rel =>
                refine ⟨k + 1, by omega, by go_num, hE2.trans' hE3, fun j hj hjk => ?_⟩
                rcases Nat.lt_or_ge j k with h | h
                · exact H.out j hj h
                · obtain rfl : j = k := by omega
                  exact H3.out
              case measure => simp [intOf]; omega
            · have hb3 : (totalL l[k] != totalL l[0]) = true := by simp [h3]
              have H3 := Lib.hid h3
              clear h3
              go_wp2_with fail
              refine wp_region_ext (by kernel_rfl) (by kernel_rfl) ?_
              repeat (go_big_quiet_step (fail))
              go_big_quiet_step ((go_at_call 65; refine quiet_ext (f65_c a' _ c' l[k] _ ?_ rfl F1.out); exact hi.ext (GW.ext _)))
              repeat (go_big_quiet_step (fail))
              go_big_quiet_step ((go_at_call 65; refine quiet_ext (f65_c a1 _ c1 l[0] _ ?_ rfl F2.out); exact hi1.ext (GW.ext _)))
              repeat (go_big_quiet_step (fail))
              refine wpQuiet_nil ?_
              intro w3 hE3
              go_wp2_with fail
              go_ret
              exact ⟨ret_int (loadsErr_fit H15.out Hv.out hlt H3.out).symm, hE2.trans' hE3⟩
          · obtain rfl : k = l.length := by omega
            go_wp2_with fail
            go_ret
            exact ⟨ret_int (loadsErr_yes H15.out Hv.out (fun j hj => H.out j hj hj)).symm, hE2⟩

set_option maxHeartbeats 4000000 in
theorem f48_c (a : Option Addr) (n c : Nat) (l : List (List Atom)) (w : World) (hl : Loads w a l) (hn : l.length = n) (hlen : n ≤ 140737488355328) (hin : ∀ j, (hj : j < l.length) → l[j].length ≤ 140737488355328) :
    Calls Try.prog 48 #[.slice a n c] w fun e w' => e = .returned (.int .i64 (loadsErr l)) ∧ Ext w w' := by
  subst hn
  by_cases h15 : l.length < 1 ∨ 5 < l.length
  · by_cases h1 : l.length < 1
    · have hd : decide ((l.length : Int) < 1) = true := by simp; omega
      go_enter Try.func48, Try.ntmps48
      go_wp2_with fail
      go_ret
      exact ⟨ret_int (loadsErr_len h15).symm, Below.refl _ _⟩
    · have hd : decide ((l.length : Int) < 1) = false := by simp; omega
      have hd2 : decide (5 < (l.length : Int)) = true := by simp; omega
      go_enter Try.func48, Try.ntmps48
      go_wp2_with fail
      go_ret
      exact ⟨ret_int (loadsErr_len h15).symm, Below.refl _ _⟩
  · have hd : decide ((l.length : Int) < 1) = false := by simp; omega
    have hd2 : decide (5 < (l.length : Int)) = false := by simp; omega
    have H15 := Lib.hid h15
    have hl1 : 1 ≤ l.length := by omega
    have hl5 : l.length ≤ 5 := by omega
    clear h15
    go_enter Try.func48, Try.ntmps48
    go_wp2_with fail
    go_loopw [3] (fun i wr => ∃ k : Nat, k ≤ l.length ∧ i = .int .i64 k ∧ Ext w wr ∧ Hid (∀ j, (hj : j < l.length) → j < k → valLoad l[j] = 0)) (fun i _ => l.length - (intOf i).toNat)
    case atStart => exact ⟨0, Nat.zero_le _, rfl, Below.refl _ _, fun j hj h => by omega⟩
    case round =>
      obtain ⟨k, hk, rfl, hE, H⟩ := hrel
      by_cases hlt : k < l.length
      · obtain ⟨b, off, a', c', rfl, hb, hc, hi⟩ := hl.ext hE k hlt
        have hik := hin k hlt
        go_wp2_with fail
        refine (f88_c _ _ _ l[k] _ hi rfl hik).mono ?_
        rintro e w1 ⟨rfl, hE1⟩
        by_cases h0 : valLoad l[k] = 0
        · rw [h0]
          have H0 := Lib.hid h0
          clear h0
          go_wp2_with fail
          go_roundw
          case rel =>
            refine ⟨k + 1, by omega, by go_num, hE.trans' hE1, fun j hj hjk => ?_⟩
            rcases Nat.lt_or_ge j k with h | h
            · exact H.out j hj h
            · obtain rfl : j = k := by omega
              exact H0.out
          case measure => simp [intOf]; omega
        · have hb2 : (valLoad l[k] != 0) = true := by simp [h0]
          have H0 := Lib.hid h0
          clear h0
          go_wp2_with fail
          go_ret
          exact ⟨ret_int (loadsErr_hit H15.out hlt H.out H0.out).symm, hE.trans' hE1⟩
      · obtain rfl : k = l.length := by omega
        have Hv : Hid (∀ j, (hj : j < l.length) → valLoad l[j] = 0) := Lib.hid (fun j hj => H.out j hj hj)
        clear H
        go_wp2_with fail
        go_loopw [5] (fun i wq => ∃ k : Nat, k ≤ l.length ∧ i = .int .i64 k ∧ Ext w wq ∧ Hid (∀ j, (hj : j < l.length) → j < k → totalL l[j] = totalL l[0])) (fun i _ => l.length - (intOf i).toNat)
        case atStart => exact ⟨0, Nat.zero_le _, rfl, hE, fun j hj h => by omega⟩
        case round =>
          obtain ⟨k, hk, rfl, hE2, H⟩ := hrel
          by_cases hlt : k < l.length
          · obtain ⟨b, off, a', c', rfl, hb, hc, hi⟩ := hl.ext hE2 k hlt
            obtain ⟨b1, off1, a1, c1, he, hb1, hc1, hi1⟩ := hl.ext hE2 0 (by omega)
            simp only [Option.some.injEq, Addr.mk.injEq] at he
            obtain ⟨rfl, rfl, -⟩ := he
            simp only [Nat.add_zero] at hc1
            have F1 := Lib.hid (fine_load (Hv.out k hlt))
            have F2 := Lib.hid (fine_load (Hv.out 0 (by omega)))
            by_cases h3 : totalL l[k] = totalL l[0]
            · have hb3 : (totalL l[k] != totalL l[0]) = false := by simp [h3]
              have H3 := Lib.hid h3
              clear h3
              go_wp2_with fail
              refine wp_region_ext (by kernel_rfl) (by kernel_rfl) ?_
              repeat (go_big_quiet_step (fail))
              go_big_quiet_step ((go_at_call 69; refine quiet_ext (f69_c a' _ c' l[k] _ ?_ rfl F1.out); exact hi.ext (GW.ext _)))
              repeat (go_big_quiet_step (fail))
              go_big_quiet_step ((go_at_call 69; refine quiet_ext (f69_c a1 _ c1 l[0] _ ?_ rfl F2.out); exact hi1.ext (GW.ext _)))
              repeat (go_big_quiet_step (fail))
              refine wpQuiet_nil ?_
              intro w3 hE3
              go_wp2_with fail
              go_roundw
              case rel =>
                refine ⟨k + 1, by omega, by go_num, hE2.trans' hE3, fun j hj hjk => ?_⟩
                rcases Nat.lt_or_ge j k with h | h
                · exact H.out j hj h
                · obtain rfl : j = k := by omega
                  exact H3.out
              case measure => simp [intOf]; omega
            · have hb3 : (totalL l[k] != totalL l[0]) = true := by simp [h3]
              have H3 := Lib.hid h3
              clear h3
              go_wp2_with fail
              refine wp_region_ext (by kernel_rfl) (by kernel_rfl) ?_
              repeat (go_big_quiet_step (fail))
              go_big_quiet_step ((go_at_call 69; refine quiet_ext (f69_c a' _ c' l[k] _ ?_ rfl F1.out); exact hi.ext (GW.ext _)))
              repeat (go_big_quiet_step (fail))
              go_big_quiet_step ((go_at_call 69; refine quiet_ext (f69_c a1 _ c1 l[0] _ ?_ rfl F2.out); exact hi1.ext (GW.ext _)))
              repeat (go_big_quiet_step (fail))
              refine wpQuiet_nil ?_
              intro w3 hE3
              go_wp2_with fail
              go_ret
              exact ⟨ret_int (loadsErr_fit H15.out Hv.out hlt H3.out).symm, hE2.trans' hE3⟩
          · obtain rfl : k = l.length := by omega
            go_wp2_with fail
            go_ret
            exact ⟨ret_int (loadsErr_yes H15.out Hv.out (fun j hj => H.out j hj hj)).symm, hE2⟩

theorem f102_c (n : Int) (w : World) : Calls Try.prog 102 #[.int .i64 n] w fun e w' => e = .returned (.bool (!withinB n 1 9)) ∧ w = w' := by
  go_enter Try.func102, Try.ntmps102
  go_wp2
  all_goals (go_ret; exact ⟨ret_bool (by rw [Bool.eq_iff_iff]; simp [withinB]; try omega), rfl⟩)
theorem f83_c (n : Int) (w : World) : Calls Try.prog 83 #[.int .i64 n] w fun e w' => e = .returned (.bool (!withinB n (-60000) 60000)) ∧ w = w' := by
  go_enter Try.func83, Try.ntmps83
  go_wp2
  all_goals (go_ret; exact ⟨ret_bool (by rw [Bool.eq_iff_iff]; simp [withinB]; try omega), rfl⟩)

set_option maxHeartbeats 1000000 in
theorem f104_102 (a : Option Addr) (c : Nat) (l : List Int) (w : World) (hl : Ints w a l) (hlen : l.length ≤ 140737488355328) :
    Calls Try.prog 104 #[.slice a l.length c, .func (.func 102) #[] #[]] w fun e w' => e = .returned (.int .i64 (idxP (fun n => !withinB n 1 9) l)) ∧ w = w' := by
  go_enter Try.func104, Try.ntmps104
  go_wp2_with fail
  go_loop [5, 8] (fun _ i => ∃ k : Nat, k ≤ l.length ∧ i = .int .i64 k ∧ Hid (∀ j, j < k → (fun n => !withinB n 1 9) (l[j]?.getD 0) = false)) (fun _ i => l.length - (intOf i).toNat)
  case atStart => exact ⟨0, Nat.zero_le _, rfl, fun j hj => by omega⟩
  case round =>
    obtain ⟨k, hk, rfl, H⟩ := hrel
    by_cases hlt : k < l.length
    · obtain ⟨b, off, rfl, hb, hcc⟩ := hl k hlt
      rw [List.getElem?_eq_getElem hlt, Option.getD_some] at hcc
      rcases Bool.eq_false_or_eq_true ((fun n => !withinB n 1 9) l[k]) with hy | hy
      · have Hy := Lib.hid hy
        simp only at hy
        go_wp2_with fail
        refine (f102_c _ _).mono ?_
        rintro e w' ⟨rfl, rfl⟩
        rw [hy]
        clear hy
        go_wp2_with fail
        go_ret
        exact ⟨ret_int (idxP_hit (p := fun n => !withinB n 1 9) hlt H.out Hy.out).symm, rfl⟩
      · have Hy := Lib.hid hy
        simp only at hy
        go_wp2_with fail
        refine (f102_c _ _).mono ?_
        rintro e w' ⟨rfl, rfl⟩
        rw [hy]
        clear hy
        go_wp2_with fail
        go_round
        case rel =>
          refine ⟨k + 1, by omega, by go_num, fun j hj => ?_⟩
          by_cases e : j = k
          · subst e; rw [List.getElem?_eq_getElem hlt]; exact Hy.out
          · exact H.out j (by omega)
        case measure => simp [intOf]; omega
    · obtain rfl : k = l.length := by omega
      go_wp2_with fail
      go_ret
      exact ⟨ret_int (idxP_miss (p := fun n => !withinB n 1 9) H.out).symm, rfl⟩
theorem f82_102 (a : Option Addr) (c : Nat) (l : List Int) (w : World) (hl : Ints w a l) (hlen : l.length ≤ 140737488355328) :
    Calls Try.prog 82 #[.slice a l.length c, .func (.func 102) #[] #[]] w fun e w' => e = .returned (.bool (l.any (fun n => !withinB n 1 9))) ∧ w = w' := by
  go_enter Try.func82, Try.ntmps82
  go_wp2_with fail
  refine (f104_102 _ _ _ _ hl hlen).mono ?_
  rintro e w' ⟨rfl, rfl⟩
  go_wp2_with fail
  go_ret
  exact ⟨ret_bool (idxP_geq _ _), rfl⟩

set_option maxHeartbeats 1000000 in
theorem f104_83 (a : Option Addr) (c : Nat) (l : List Int) (w : World) (hl : Ints w a l) (hlen : l.length ≤ 140737488355328) :
    Calls Try.prog 104 #[.slice a l.length c, .func (.func 83) #[] #[]] w fun e w' => e = .returned (.int .i64 (idxP (fun n => !withinB n (-60000) 60000) l)) ∧ w = w' := by
  go_enter Try.func104, Try.ntmps104
  go_wp2_with fail
  go_loop [5, 8] (fun _ i => ∃ k : Nat, k ≤ l.length ∧ i = .int .i64 k ∧ Hid (∀ j, j < k → (fun n => !withinB n (-60000) 60000) (l[j]?.getD 0) = false)) (fun _ i => l.length - (intOf i).toNat)
  case atStart => exact ⟨0, Nat.zero_le _, rfl, fun j hj => by omega⟩
  case round =>
    obtain ⟨k, hk, rfl, H⟩ := hrel
    by_cases hlt : k < l.length
    · obtain ⟨b, off, rfl, hb, hcc⟩ := hl k hlt
      rw [List.getElem?_eq_getElem hlt, Option.getD_some] at hcc
      rcases Bool.eq_false_or_eq_true ((fun n => !withinB n (-60000) 60000) l[k]) with hy | hy
      · have Hy := Lib.hid hy
        simp only at hy
        go_wp2_with fail
        refine (f83_c _ _).mono ?_
        rintro e w' ⟨rfl, rfl⟩
        rw [hy]
        clear hy
        go_wp2_with fail
        go_ret
        exact ⟨ret_int (idxP_hit (p := fun n => !withinB n (-60000) 60000) hlt H.out Hy.out).symm, rfl⟩
      · have Hy := Lib.hid hy
        simp only at hy
        go_wp2_with fail
        refine (f83_c _ _).mono ?_
        rintro e w' ⟨rfl, rfl⟩
        rw [hy]
        clear hy
        go_wp2_with fail
        go_round
        case rel =>
          refine ⟨k + 1, by omega, by go_num, fun j hj => ?_⟩
          by_cases e : j = k
          · subst e; rw [List.getElem?_eq_getElem hlt]; exact Hy.out
          · exact H.out j (by omega)
        case measure => simp [intOf]; omega
    · obtain rfl : k = l.length := by omega
      go_wp2_with fail
      go_ret
      exact ⟨ret_int (idxP_miss (p := fun n => !withinB n (-60000) 60000) H.out).symm, rfl⟩
theorem f82_83 (a : Option Addr) (c : Nat) (l : List Int) (w : World) (hl : Ints w a l) (hlen : l.length ≤ 140737488355328) :
    Calls Try.prog 82 #[.slice a l.length c, .func (.func 83) #[] #[]] w fun e w' => e = .returned (.bool (l.any (fun n => !withinB n (-60000) 60000))) ∧ w = w' := by
  go_enter Try.func82, Try.ntmps82
  go_wp2_with fail
  refine (f104_83 _ _ _ _ hl hlen).mono ?_
  rintro e w' ⟨rfl, rfl⟩
  go_wp2_with fail
  go_ret
  exact ⟨ret_bool (idxP_geq _ _), rfl⟩

theorem any_not (p : Int → Bool) (l : List Int) : (l.any fun n => !p n) = !l.all p := by rw [List.all_eq_not_any_not]; simp
set_option maxHeartbeats 1000000 in
theorem f78_c (a a2 : Option Addr) (n c n2 c2 : Nat) (l : List (List Atom)) (ws : List Int) (w : World) (hn : l.length = n) (hlen : n ≤ 140737488355328) (hw : Ints w a2 ws) (hn2 : ws.length = n2) (hlen2 : n2 ≤ 140737488355328) :
    Calls Try.prog 78 #[.slice a n c, .slice a2 n2 c2] w fun e w' => e = .returned (.int .i64 (weightsErr l ws)) ∧ Ext w w' := by
  subst hn hn2
  by_cases h1 : ws.length = l.length
  · have hb : ((ws.length : Int) != (l.length : Int)) = false := by simp [h1]
    have H1 := Lib.hid h1
    clear h1
    rcases Bool.eq_false_or_eq_true (ws.all fun n => withinB n 1 9) with h2 | h2
    all_goals
      have H2 := Lib.hid h2
      have h3 := any_not (fun n => withinB n 1 9) ws
      rw [h2] at h3
      clear h2
      go_enter Try.func78, Try.ntmps78
      go_wp2_with fail
      refine (f82_102 _ _ _ _ hw hlen2).mono ?_
      rintro e w1 ⟨rfl, rfl⟩
      rw [h3]
      clear h3
      go_wp2_with fail
      go_ret
      exact ⟨ret_int (by unfold weightsErr; rw [if_neg (by simpa using H1.out), H2.out]; rfl), Below.refl _ _⟩
  · have hb : ((ws.length : Int) != (l.length : Int)) = true := by simp; omega
    have H1 := Lib.hid h1
    clear h1
    go_enter Try.func78, Try.ntmps78
    go_wp2_with fail
    go_ret
    exact ⟨ret_int (by unfold weightsErr; rw [if_pos H1.out]), Below.refl _ _⟩

set_option maxHeartbeats 1000000 in
theorem f64_c (a a2 : Option Addr) (n c n2 c2 : Nat) (l : List (List Atom)) (ws : List Int) (w : World) (hl : Loads w a l) (hn : l.length = n) (hlen : n ≤ 140737488355328) (hin : ∀ j, (hj : j < l.length) → l[j].length ≤ 140737488355328) (hw : Ints w a2 ws) (hn2 : ws.length = n2) (hlen2 : n2 ≤ 140737488355328) :
    Calls Try.prog 64 #[.slice a n c, .slice a2 n2 c2] w fun e w' => e = .returned (.int .i64 (weighedErr l ws)) ∧ Ext w w' := by
  go_enter Try.func64, Try.ntmps64
  go_wp2_with fail
  refine (f47_c a n c l _ hl hn hlen hin).mono ?_
  rintro e w1 ⟨rfl, hE1⟩
  by_cases h0 : loadsErr l = 0
  · rw [h0]
    have H0 := Lib.hid h0
    clear h0
    go_wp2_with fail
    refine (f78_c a a2 n c n2 c2 l ws _ hn hlen (hw.ext hE1) hn2 hlen2).mono ?_
    rintro e w2 ⟨rfl, hE2⟩
    go_wp2_with fail
    go_ret
    exact ⟨ret_int (by unfold weighedErr; rw [if_neg (by simpa using H0.out)]), hE1.trans' hE2⟩
  · have hb : (loadsErr l != 0) = true := by simp [h0]
    have H0 := Lib.hid h0
    clear h0
    go_wp2_with fail
    go_ret
    exact ⟨ret_int (by unfold weighedErr; rw [if_pos H0.out]), hE1⟩

set_option maxHeartbeats 1000000 in
theorem f68_c (a a2 : Option Addr) (n c n2 c2 : Nat) (l : List (List Atom)) (ws : List Int) (w : World) (hn : l.length = n) (hlen : n ≤ 140737488355328) (hw : Ints w a2 ws) (hn2 : ws.length = n2) (hlen2 : n2 ≤ 140737488355328) :
    Calls Try.prog 68 #[.slice a n c, .slice a2 n2 c2] w fun e w' => e = .returned (.int .i64 (weightsErr l ws)) ∧ Ext w w' := by
  subst hn hn2
  by_cases h1 : ws.length = l.length
  · have hb : ((ws.length : Int) != (l.length : Int)) = false := by simp [h1]
    have H1 := Lib.hid h1
    clear h1
    go_enter Try.func68, Try.ntmps68
    go_wp2_with fail
    go_loopw [5] (fun i wr => ∃ k : Nat, k ≤ ws.length ∧ i = .int .i64 k ∧ Ext w wr ∧ Hid (∀ j, (hj : j < ws.length) → j < k → withinB ws[j] 1 9 = true)) (fun i _ => ws.length - (intOf i).toNat)
    case atStart => exact ⟨0, Nat.zero_le _, rfl, Below.refl _ _, fun j hj h => by omega⟩
    case round =>
      obtain ⟨k, hk, rfl, hE, H⟩ := hrel
      by_cases hlt : k < ws.length
      · obtain ⟨b, off, rfl, hb', hc⟩ := hw.ext hE k hlt
        rw [List.getElem?_eq_getElem hlt, Option.getD_some] at hc
        go_wp2_with fail
        refine (f73_c _ _ _ _).mono ?_
        rintro e w1 ⟨rfl, rfl⟩
        rcases Bool.eq_false_or_eq_true (withinB ws[k] 1 9) with h2 | h2
        · have H2 := Lib.hid h2
          rw [h2]
          clear h2
          go_wp2_with fail
          go_roundw
          case rel =>
            refine ⟨k + 1, by omega, by go_num, hE, fun j hj hjk => ?_⟩
            rcases Nat.lt_or_ge j k with h | h
            · exact H.out j hj h
            · obtain rfl : j = k := by omega
              exact H2.out
          case measure => simp [intOf]; omega
        · have H2 := Lib.hid h2
          rw [h2]
          clear h2
          go_wp2_with fail
          go_ret
          exact ⟨ret_int (by
            unfold weightsErr; rw [if_neg (by simpa using H1.out), if_neg]
            intro h; have := List.all_eq_true.1 h _ (List.getElem_mem hlt); rw [H2.out] at this; cases this), hE⟩
      · obtain rfl : k = ws.length := by omega
        go_wp2_with fail
        go_ret
        exact ⟨ret_int (by
          unfold weightsErr; rw [if_neg (by simpa using H1.out), if_pos]
          rw [List.all_eq_true]; intro x hx; obtain ⟨j, hj, rfl⟩ := List.getElem_of_mem hx; exact H.out j hj hj), hE⟩
  · have hb : ((ws.length : Int) != (l.length : Int)) = true := by simp; omega
    have H1 := Lib.hid h1
    clear h1
    go_enter Try.func68, Try.ntmps68
    go_wp2_with fail
    go_ret
    exact ⟨ret_int (by unfold weightsErr; rw [if_pos H1.out]), Below.refl _ _⟩

end Go.Proofs.Ytgnjaapjaglleaa
