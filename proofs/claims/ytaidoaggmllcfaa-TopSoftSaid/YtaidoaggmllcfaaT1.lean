/- Contracts of layer 6: within, the closures, sums, equal tables. -/
import Derived.WalkKit
import Derived.WalkSpells
import Derived.WalkLawsBesides
import Derived.Deep.QuietTactic
import Derived.BigQuiet
import Derived.Lib.Hide
import Derived.Test.YtaidoaggmllcfaaProg
import Derived.Test.YtaidoaggmllcfaaTab
namespace Go.Proofs.Ytaidoaggmllcfaa
open Go.RowKit
attribute [local go_sem] GW.cell

theorem f62_c (n lo hi : Int) (w : World) :
    Calls Try.prog 62 #[.int .i64 n, .int .i64 lo, .int .i64 hi] w fun e w' => e = .returned (.bool (withinB n lo hi)) ∧ w = w' := by
  go_enter Try.func62, Try.ntmps62
  go_wp2
  all_goals (go_ret; exact ⟨ret_bool (by simp [withinB]; try omega), rfl⟩)

theorem f104_c (n lo hi : Int) (w : World) :
    Calls Try.prog 104 #[.int .i64 n, .int .i64 lo, .int .i64 hi] w fun e w' => e = .returned (.bool (withinB n lo hi)) ∧ w = w' := by
  go_enter Try.func104, Try.ntmps104
  go_wp2
  all_goals (go_ret; exact ⟨ret_bool (by simp [withinB]; try omega), rfl⟩)

theorem f60_c (n lo hi : Int) (w : World) :
    Calls Try.prog 60 #[.int .i64 n, .int .i64 lo, .int .i64 hi] w fun e w' => e = .returned (.bool (withinB n lo hi)) ∧ w = w' := by
  go_enter Try.func60, Try.ntmps60
  go_wp2
  all_goals (go_ret; exact ⟨ret_bool (by simp [withinB]; try omega), rfl⟩)

theorem f107_c (n lo hi : Int) (w : World) :
    Calls Try.prog 107 #[.int .i64 n, .int .i64 lo, .int .i64 hi] w fun e w' => e = .returned (.bool (withinB n lo hi)) ∧ w = w' := by
  go_enter Try.func107, Try.ntmps107
  go_wp2
  all_goals (go_ret; exact ⟨ret_bool (by simp [withinB]; try omega), rfl⟩)

theorem f100_c (n lo hi : Int) (w : World) :
    Calls Try.prog 100 #[.int .i64 n, .int .i64 lo, .int .i64 hi] w fun e w' => e = .returned (.bool (withinB n lo hi)) ∧ w = w' := by
  go_enter Try.func100, Try.ntmps100
  go_wp2
  all_goals (go_ret; exact ⟨ret_bool (by simp [withinB]; try omega), rfl⟩)

theorem f103_c (n most : Int) (bm : Nat) (w : World) (hc : w.cell? ⟨bm, 0, none⟩ = some (.int .i64 most)) :
    Calls Try.prog 103 #[.int .i64 n, .pointer (some ⟨bm, 0, none⟩)] w fun e w' => e = .returned (.bool (!withinB n 0 most)) ∧ w = w' := by
  go_enter Try.func103, Try.ntmps103
  go_wp2_with (go_at_call 62; refine (f62_c _ _ _ _).mono ?_; rintro e w' ⟨rfl, rfl⟩)
  go_ret
  exact ⟨rfl, rfl⟩
theorem f105_c (n : Int) (w : World) :
    Calls Try.prog 105 #[.int .i64 n] w fun e w' => e = .returned (.bool (!withinB n 0 30)) ∧ w = w' := by
  go_enter Try.func105, Try.ntmps105
  go_wp2
  all_goals (go_ret; exact ⟨ret_bool (by rw [Bool.eq_iff_iff]; simp [withinB]; try omega), rfl⟩)
theorem f123_c (n lo hi : Int) (b1 b2 : Nat) (w : World) (hc : w.cell? ⟨b1, 0, none⟩ = some (.int .i64 lo)) (hd : w.cell? ⟨b2, 0, none⟩ = some (.int .i64 hi)) :
    Calls Try.prog 123 #[.int .i64 n, .pointer (some ⟨b1, 0, none⟩), .pointer (some ⟨b2, 0, none⟩)] w fun e w' => e = .returned (.bool (!withinB n lo hi)) ∧ w = w' := by
  go_enter Try.func123, Try.ntmps123
  go_wp2_with (go_at_call 100; refine (f100_c _ _ _ _).mono ?_; rintro e w' ⟨rfl, rfl⟩)
  go_ret
  exact ⟨rfl, rfl⟩
theorem okRow_any (lo hi : Int) (l : List Int) : l.any (fun n => !withinB n lo hi) = !okRow lo hi l := by
  simp [okRow, List.any_eq_not_all_not]

theorem f124_103 (most : Int) (bm : Nat) (a : Option Addr) (c : Nat) (l : List Int) (w : World) (hl : Ints w a l) (hlen : l.length ≤ 140737488355328) (hc : w.cell? ⟨bm, 0, none⟩ = some (.int .i64 most)) :
    Calls Try.prog 124 #[.slice a l.length c, .func (.func 103) #[] #[.pointer (some ⟨bm, 0, none⟩)]] w fun e w' => e = .returned (.int .i64 (idxP (fun n => !withinB n 0 most) l)) ∧ w = w' := by
  go_enter Try.func124, Try.ntmps124
  go_wp2_with fail
  go_loop [5, 8] (fun _ i => ∃ k : Nat, k ≤ l.length ∧ i = .int .i64 k ∧ Hid (∀ j, j < k → (fun n => !withinB n 0 most) (l[j]?.getD 0) = false)) (fun _ i => l.length - (intOf i).toNat)
  case atStart => exact ⟨0, Nat.zero_le _, rfl, fun j hj => by omega⟩
  case round =>
    obtain ⟨k, hk, rfl, H⟩ := hrel
    by_cases hlt : k < l.length
    · obtain ⟨b, off, rfl, hb, hcc⟩ := hl k hlt
      rw [List.getElem?_eq_getElem hlt, Option.getD_some] at hcc
      go_wp2_with (go_at_call 103; refine (f103_c _ _ _ _ hc).mono ?_; rintro e w' ⟨rfl, rfl⟩)
      · have hy : (!withinB l[k] 0 most) = true := by assumption
        go_ret
        exact ⟨ret_int (idxP_hit (p := (fun n => !withinB n 0 most)) hlt H.out hy).symm, rfl⟩
      · have hy : (!withinB l[k] 0 most) = false := by assumption
        go_round
        case rel =>
          refine ⟨k + 1, by omega, by go_num, fun j hj => ?_⟩
          by_cases e : j = k
          · subst e; rw [List.getElem?_eq_getElem hlt]; exact hy
          · exact H.out j (by omega)
        case measure => simp [intOf]; omega
    · obtain rfl : k = l.length := by omega
      go_wp2_with fail
      go_ret
      exact ⟨ret_int (idxP_miss (p := (fun n => !withinB n 0 most)) H.out).symm, rfl⟩
theorem f102_103 (most : Int) (bm : Nat) (a : Option Addr) (c : Nat) (l : List Int) (w : World) (hl : Ints w a l) (hlen : l.length ≤ 140737488355328) (hc : w.cell? ⟨bm, 0, none⟩ = some (.int .i64 most)) :
    Calls Try.prog 102 #[.slice a l.length c, .func (.func 103) #[] #[.pointer (some ⟨bm, 0, none⟩)]] w fun e w' => e = .returned (.bool (!okRow 0 most l)) ∧ w = w' := by
  go_enter Try.func102, Try.ntmps102
  go_wp2_with (go_at_call 124; refine (f124_103 _ _ _ _ _ _ hl hlen hc).mono ?_; rintro e w' ⟨rfl, rfl⟩)
  go_ret
  exact ⟨ret_bool ((idxP_geq _ _).trans (okRow_any _ _ _)), rfl⟩

theorem f124_105  (a : Option Addr) (c : Nat) (l : List Int) (w : World) (hl : Ints w a l) (hlen : l.length ≤ 140737488355328)  :
    Calls Try.prog 124 #[.slice a l.length c, .func (.func 105) #[] #[]] w fun e w' => e = .returned (.int .i64 (idxP (fun n => !withinB n 0 30) l)) ∧ w = w' := by
  go_enter Try.func124, Try.ntmps124
  go_wp2_with fail
  go_loop [5, 8] (fun _ i => ∃ k : Nat, k ≤ l.length ∧ i = .int .i64 k ∧ Hid (∀ j, j < k → (fun n => !withinB n 0 30) (l[j]?.getD 0) = false)) (fun _ i => l.length - (intOf i).toNat)
  case atStart => exact ⟨0, Nat.zero_le _, rfl, fun j hj => by omega⟩
  case round =>
    obtain ⟨k, hk, rfl, H⟩ := hrel
    by_cases hlt : k < l.length
    · obtain ⟨b, off, rfl, hb, hcc⟩ := hl k hlt
      rw [List.getElem?_eq_getElem hlt, Option.getD_some] at hcc
      go_wp2_with (go_at_call 105; refine (f105_c _ _).mono ?_; rintro e w' ⟨rfl, rfl⟩)
      · have hy : (!withinB l[k] 0 30) = true := by assumption
        go_ret
        exact ⟨ret_int (idxP_hit (p := (fun n => !withinB n 0 30)) hlt H.out hy).symm, rfl⟩
      · have hy : (!withinB l[k] 0 30) = false := by assumption
        go_round
        case rel =>
          refine ⟨k + 1, by omega, by go_num, fun j hj => ?_⟩
          by_cases e : j = k
          · subst e; rw [List.getElem?_eq_getElem hlt]; exact hy
          · exact H.out j (by omega)
        case measure => simp [intOf]; omega
    · obtain rfl : k = l.length := by omega
      go_wp2_with fail
      go_ret
      exact ⟨ret_int (idxP_miss (p := (fun n => !withinB n 0 30)) H.out).symm, rfl⟩
theorem f102_105  (a : Option Addr) (c : Nat) (l : List Int) (w : World) (hl : Ints w a l) (hlen : l.length ≤ 140737488355328)  :
    Calls Try.prog 102 #[.slice a l.length c, .func (.func 105) #[] #[]] w fun e w' => e = .returned (.bool (!okRow 0 30 l)) ∧ w = w' := by
  go_enter Try.func102, Try.ntmps102
  go_wp2_with (go_at_call 124; refine (f124_105 _ _ _ _ hl hlen ).mono ?_; rintro e w' ⟨rfl, rfl⟩)
  go_ret
  exact ⟨ret_bool ((idxP_geq _ _).trans (okRow_any _ _ _)), rfl⟩

theorem f124_123 (lo hi : Int) (b1 b2 : Nat) (a : Option Addr) (c : Nat) (l : List Int) (w : World) (hl : Ints w a l) (hlen : l.length ≤ 140737488355328) (hc : w.cell? ⟨b1, 0, none⟩ = some (.int .i64 lo)) (hd : w.cell? ⟨b2, 0, none⟩ = some (.int .i64 hi)) :
    Calls Try.prog 124 #[.slice a l.length c, .func (.func 123) #[] #[.pointer (some ⟨b1, 0, none⟩), .pointer (some ⟨b2, 0, none⟩)]] w fun e w' => e = .returned (.int .i64 (idxP (fun n => !withinB n lo hi) l)) ∧ w = w' := by
  go_enter Try.func124, Try.ntmps124
  go_wp2_with fail
  go_loop [5, 8] (fun _ i => ∃ k : Nat, k ≤ l.length ∧ i = .int .i64 k ∧ Hid (∀ j, j < k → (fun n => !withinB n lo hi) (l[j]?.getD 0) = false)) (fun _ i => l.length - (intOf i).toNat)
  case atStart => exact ⟨0, Nat.zero_le _, rfl, fun j hj => by omega⟩
  case round =>
    obtain ⟨k, hk, rfl, H⟩ := hrel
    by_cases hlt : k < l.length
    · obtain ⟨b, off, rfl, hb, hcc⟩ := hl k hlt
      rw [List.getElem?_eq_getElem hlt, Option.getD_some] at hcc
      go_wp2_with (go_at_call 123; refine (f123_c _ _ _ _ _ _ hc hd).mono ?_; rintro e w' ⟨rfl, rfl⟩)
      · have hy : (!withinB l[k] lo hi) = true := by assumption
        go_ret
        exact ⟨ret_int (idxP_hit (p := (fun n => !withinB n lo hi)) hlt H.out hy).symm, rfl⟩
      · have hy : (!withinB l[k] lo hi) = false := by assumption
        go_round
        case rel =>
          refine ⟨k + 1, by omega, by go_num, fun j hj => ?_⟩
          by_cases e : j = k
          · subst e; rw [List.getElem?_eq_getElem hlt]; exact hy
          · exact H.out j (by omega)
        case measure => simp [intOf]; omega
    · obtain rfl : k = l.length := by omega
      go_wp2_with fail
      go_ret
      exact ⟨ret_int (idxP_miss (p := (fun n => !withinB n lo hi)) H.out).symm, rfl⟩
theorem f102_123 (lo hi : Int) (b1 b2 : Nat) (a : Option Addr) (c : Nat) (l : List Int) (w : World) (hl : Ints w a l) (hlen : l.length ≤ 140737488355328) (hc : w.cell? ⟨b1, 0, none⟩ = some (.int .i64 lo)) (hd : w.cell? ⟨b2, 0, none⟩ = some (.int .i64 hi)) :
    Calls Try.prog 102 #[.slice a l.length c, .func (.func 123) #[] #[.pointer (some ⟨b1, 0, none⟩), .pointer (some ⟨b2, 0, none⟩)]] w fun e w' => e = .returned (.bool (!okRow lo hi l)) ∧ w = w' := by
  go_enter Try.func102, Try.ntmps102
  go_wp2_with (go_at_call 124; refine (f124_123 _ _ _ _ _ _ _ _ hl hlen hc hd).mono ?_; rintro e w' ⟨rfl, rfl⟩)
  go_ret
  exact ⟨ret_bool ((idxP_geq _ _).trans (okRow_any _ _ _)), rfl⟩

set_option maxHeartbeats 1000000 in
theorem f26_c (a : Option Addr) (n c : Nat) (l : List Int) (w : World) (hl : Ints w a l) (hn : l.length = n) (hlen : n ≤ 1000) (hbd : ∀ j, j < l.length → -1000000000000 ≤ gi l j ∧ gi l j ≤ 1000000000000) :
    Calls Try.prog 26 #[.slice a n c] w fun e w' => e = .returned (.int .i64 (sm l)) ∧ w = w' := by
  subst hn
  have Hbd := Lib.hid (smTo_bd2 (M := 1000000000000) hbd)
  have Hb := Lib.hid hbd
  clear hbd
  go_enter Try.func26, Try.ntmps26
  go_wp2_with fail
  go_loop [3, 4] (fun s i => ∃ k : Nat, k ≤ l.length ∧ i = .int .i64 k ∧ s = .int .i64 (smTo l k)) (fun _ i => l.length - (intOf i).toNat)
  case atStart => exact ⟨0, Nat.zero_le _, rfl, rfl⟩
  case round =>
    obtain ⟨k, hk, rfl, rfl⟩ := hrel
    by_cases hlt : k < l.length
    · obtain ⟨b, off, rfl, hb, hcc⟩ := hl k hlt
      rw [← gi_at] at hcc
      have h1 := Hbd.out k (by omega)
      have h2 := Hb.out k hlt
      have Hs := Lib.hid (smTo_succ l k)
      generalize gi l k = x at *
      generalize smTo l k = y at *
      go_wp2_with fail
      go_round
      case rel => exact ⟨k + 1, by omega, by go_num, by rw [Hs.out]⟩
      case measure => simp [intOf]; omega
    · obtain rfl : k = l.length := by omega
      go_wp2_with fail
      go_ret
      exact ⟨rfl, rfl⟩

set_option maxHeartbeats 1000000 in
theorem f117_c (a : Option Addr) (n c : Nat) (l : List Int) (w : World) (hl : Ints w a l) (hn : l.length = n) (hlen : n ≤ 1000) (hbd : ∀ j, j < l.length → -1000000000000 ≤ gi l j ∧ gi l j ≤ 1000000000000) :
    Calls Try.prog 117 #[.slice a n c] w fun e w' => e = .returned (.int .i64 (sm l)) ∧ w = w' := by
  subst hn
  have Hbd := Lib.hid (smTo_bd2 (M := 1000000000000) hbd)
  have Hb := Lib.hid hbd
  clear hbd
  go_enter Try.func117, Try.ntmps117
  go_wp2_with fail
  go_loop [3, 5, 8] (fun s _ i => ∃ k : Nat, k ≤ l.length ∧ i = .int .i64 k ∧ s = .int .i64 (smTo l k)) (fun _ _ i => l.length - (intOf i).toNat)
  case atStart => exact ⟨0, Nat.zero_le _, rfl, rfl⟩
  case round =>
    obtain ⟨k, hk, rfl, rfl⟩ := hrel
    by_cases hlt : k < l.length
    · obtain ⟨b, off, rfl, hb, hcc⟩ := hl k hlt
      rw [← gi_at] at hcc
      have h1 := Hbd.out k (by omega)
      have h2 := Hb.out k hlt
      have Hs := Lib.hid (smTo_succ l k)
      generalize gi l k = x at *
      generalize smTo l k = y at *
      go_wp2_with fail
      go_round
      case rel => exact ⟨k + 1, by omega, by go_num, by rw [Hs.out]⟩
      case measure => simp [intOf]; omega
    · obtain rfl : k = l.length := by omega
      go_wp2_with fail
      go_ret
      exact ⟨rfl, rfl⟩

theorem f96_c (a : Option Addr) (n c : Nat) (l : List Int) (w : World) (hl : Ints w a l) (hn : l.length = n) (hlen : n ≤ 1000) (hbd : ∀ j, j < l.length → -1000000000000 ≤ gi l j ∧ gi l j ≤ 1000000000000) :
    Calls Try.prog 96 #[.slice a n c] w fun e w' => e = .returned (.int .i64 (sm l)) ∧ w = w' := by
  have Hb := Lib.hid hbd
  clear hbd
  go_enter Try.func96, Try.ntmps96
  go_wp2_with (go_at_call 26; refine (f26_c _ _ _ l _ hl hn hlen Hb.out).mono ?_; rintro e w' ⟨rfl, rfl⟩)
  go_ret
  exact ⟨rfl, rfl⟩

theorem f67_c (a b : Int) (w : World) : Calls Try.prog 67 #[.int .i64 a, .int .i64 b] w fun e w' => e = .returned (.int .i64 (if a = b then 0 else 1)) ∧ w = w' := by
  by_cases h : a = b
  · have d : (a != b) = false := by simp [h]
    rw [if_pos h]
    clear h
    go_enter Try.func67, Try.ntmps67
    go_wp2_with fail
    go_ret
    exact ⟨rfl, rfl⟩
  · have d : (a != b) = true := by simp [h]
    rw [if_neg h]
    clear h
    go_enter Try.func67, Try.ntmps67
    go_wp2_with fail
    go_ret
    exact ⟨rfl, rfl⟩
theorem f20_c (a b : Option Addr) (n c m d : Nat) (w : World) :
    Calls Try.prog 20 #[.slice a n c, .slice b m d] w fun e w' => e = .returned (.bool (decide (50 < n) || decide (50 < m))) ∧ w = w' := by
  go_enter Try.func20, Try.ntmps20
  go_wp2
  all_goals (go_ret; exact ⟨ret_bool (by rw [Bool.eq_iff_iff]; simp <;> omega), rfl⟩)
theorem f57_c (s : Int) (w : World) : Calls Try.prog 57 #[.int .i64 s] w fun e w' => e = .returned (.int .i64 (errOf (withinB s 1 99))) ∧ w = w' := by
  go_enter Try.func57, Try.ntmps57
  go_wp2_with (go_at_call 62; refine (f62_c _ _ _ _).mono ?_; rintro e w' ⟨rfl, rfl⟩)
  all_goals (go_ret; exact ⟨ret_int (by simp_all [errOf]), rfl⟩)

/-! ### equal lists, equal tables -/
def sameI (l m : List Int) : Bool := decide (l = m)
theorem sameI_len {l m : List Int} (h : l.length ≠ m.length) : sameI l m = false := by
  simp only [sameI, decide_eq_false_iff_not]; intro e; exact h (by rw [e])
theorem sameI_at {l m : List Int} {k : Nat} (h : gi l k ≠ gi m k) : sameI l m = false := by
  simp only [sameI, decide_eq_false_iff_not]; intro e; exact h (by rw [e])
theorem sameI_yes {l m : List Int} (h : l.length = m.length) (hh : ∀ j, j < l.length → gi l j = gi m j) : sameI l m = true := by
  simp only [sameI, decide_eq_true_eq]; exact list_ext_gi h hh
set_option maxHeartbeats 1000000 in
theorem f65_c (a b : Option Addr) (n c m d : Nat) (l k : List Int) (w : World) (hl : Ints w a l) (hk : Ints w b k) (hn : l.length = n) (hm : k.length = m) (hlen : n ≤ 1000000) (hlen2 : m ≤ 1000000) :
    Calls Try.prog 65 #[.slice a n c, .slice b m d] w fun e w' => e = .returned (.bool (sameI l k)) ∧ Ext w w' := by
  by_cases h : n = m
  case neg =>
    have hd : ((n : Int) != (m : Int)) = true := by simp; omega
    have Hs := Lib.hid (sameI_len (l := l) (m := k) (by omega))
    clear h
    go_enter Try.func65, Try.ntmps65
    go_wp2_with fail
    go_ret
    exact ⟨ret_bool Hs.out.symm, Below.refl _ _⟩
  have hd : ((n : Int) != (m : Int)) = false := by simp [h]
  have h2 := Lib.hid h
  subst hn
  clear h
  go_enter Try.func65, Try.ntmps65
  go_wp2_with fail
  go_loopw [5] (fun i wr => ∃ q : Nat, q ≤ l.length ∧ i = .int .i64 q ∧ Ext w wr ∧ Hid (∀ j, j < q → gi l j = gi k j)) (fun i _ => l.length - (intOf i).toNat)
  case atStart => exact ⟨0, Nat.zero_le _, rfl, Below.refl _ _, fun j hj => by omega⟩
  case round =>
    obtain ⟨q, hq, rfl, hE, H⟩ := hrel
    by_cases hlt : q < l.length
    · have h3 := h2.out
      obtain ⟨b1, o1, rfl, hb1, hc1⟩ := hl.ext hE q hlt
      obtain ⟨b2, o2, rfl, hb2, hc2⟩ := hk.ext hE q (by omega)
      have hltm : q < m := by omega
      clear h3
      rw [← gi_at] at hc1 hc2
      by_cases he : gi l q = gi k q
      · have He := Lib.hid he
        rw [← he] at hc2
        clear he
        go_wp2_with fail
        refine wp_region_ext (by kernel_rfl) (by kernel_rfl) ?_
        repeat (go_big_quiet_step (fail))
        refine wpQuiet_nil ?_
        intro w1 hE1
        go_wp2_with fail
        go_roundw
        case rel =>
          refine ⟨q + 1, by omega, by go_num, hE.trans' hE1, fun j hj => ?_⟩
          by_cases e : j = q
          · subst e; exact He.out
          · exact H.out j (by omega)
        case measure => simp [intOf]; omega
      · have He := Lib.hid (sameI_at he)
        have hd2 : (gi l q != gi k q) = true := by simp [he]
        clear he
        go_wp2_with fail
        refine wp_region_ext (by kernel_rfl) (by kernel_rfl) ?_
        repeat (go_big_quiet_step (fail))
        refine wpQuiet_nil ?_
        intro w1 hE1
        go_wp2_with fail
        go_ret
        exact ⟨ret_bool He.out.symm, hE.trans' hE1⟩
    · obtain rfl : q = l.length := by omega
      go_wp2_with fail
      go_ret
      exact ⟨ret_bool (sameI_yes (by have := h2.out; omega) H.out).symm, hE⟩

def sameT (t u : Tbl) : Bool := decide (t = u)
theorem sameT_len {l m : Tbl} (h : l.length ≠ m.length) : sameT l m = false := by
  simp only [sameT, decide_eq_false_iff_not]; intro e; exact h (by rw [e])
theorem sameT_at {l m : Tbl} {k : Nat} (h1 : k < l.length) (h2 : k < m.length) (h : sameI l[k] m[k] = false) : sameT l m = false := by
  simp only [sameT, sameI, decide_eq_false_iff_not] at *; intro e; subst e; exact h rfl
theorem sameT_yes {l m : Tbl} (h : l.length = m.length) (hh : ∀ j, (h1 : j < l.length) → (h2 : j < m.length) → sameI l[j] m[j] = true) : sameT l m = true := by
  simp only [sameT, sameI, decide_eq_true_eq] at *
  exact List.ext_getElem h fun i a b => hh i a b
set_option maxHeartbeats 2000000 in
theorem f19_c (a b : Option Addr) (n c m d : Nat) (l k : Tbl) (w : World) (hl : Table w a l) (hk : Table w b k) (hn : l.length = n) (hm : k.length = m) (hlen : n ≤ 1000000) (hlen2 : m ≤ 1000000)
    (hi1 : ∀ j, (hj : j < l.length) → l[j].length ≤ 1000000) (hi2 : ∀ j, (hj : j < k.length) → k[j].length ≤ 1000000) :
    Calls Try.prog 19 #[.slice a n c, .slice b m d] w fun e w' => e = .returned (.bool (sameT l k)) ∧ Ext w w' := by
  by_cases h : n = m
  case neg =>
    have hd : ((n : Int) != (m : Int)) = true := by simp; omega
    have Hs := Lib.hid (sameT_len (l := l) (m := k) (by omega))
    clear h
    go_enter Try.func19, Try.ntmps19
    go_wp2_with fail
    go_ret
    exact ⟨ret_bool Hs.out.symm, Below.refl _ _⟩
  have hd : ((n : Int) != (m : Int)) = false := by simp [h]
  have h2 := Lib.hid h
  subst hn
  subst hm
  clear h
  go_enter Try.func19, Try.ntmps19
  go_wp2_with fail
  go_loopw [5] (fun i wr => ∃ q : Nat, q ≤ l.length ∧ i = .int .i64 q ∧ Ext w wr ∧ Hid (∀ j, j < q → (h1 : j < l.length) → (h2 : j < k.length) → sameI l[j] k[j] = true)) (fun i _ => l.length - (intOf i).toNat)
  case atStart => exact ⟨0, Nat.zero_le _, rfl, Below.refl _ _, fun j hj => by omega⟩
  case round =>
    obtain ⟨q, hq, rfl, hE, H⟩ := hrel
    by_cases hlt : q < l.length
    · have h3 := h2.out
      have hltm : q < k.length := by omega
      obtain ⟨b1, o1, a1, c1, rfl, hb1, hc1, hI1⟩ := hl.ext hE q hlt
      obtain ⟨b2, o2, a2, c2, rfl, hb2, hc2, hI2⟩ := hk.ext hE q hltm
      clear h3
      have Hc := Lib.hid (fun (X : World) (hX : Ext wr X) => f65_c a1 a2 l[q].length c1 k[q].length c2 l[q] k[q] X (hI1.ext hX) (hI2.ext hX) rfl rfl (hi1 q hlt) (hi2 q hltm))
      by_cases he : sameI l[q] k[q] = true
      · have He := Lib.hid he
        rw [he] at Hc
        clear he
        go_wp2_with fail
        refine wp_region_ext (by kernel_rfl) (by kernel_rfl) ?_
        repeat (go_big_quiet_step ((go_at_call 65; exact quiet_ext (Hc.out _ (GW.ext _)))))
        refine wpQuiet_nil ?_
        intro w1 hE1
        go_wp2_with fail
        go_roundw
        case rel =>
          refine ⟨q + 1, by omega, by go_num, hE.trans' hE1, fun j hj h1 h2 => ?_⟩
          by_cases e : j = q
          · subst e; exact He.out
          · exact H.out j (by omega) h1 h2
        case measure => simp [intOf]; omega
      · have he2 : sameI l[q] k[q] = false := by simpa using he
        have He := Lib.hid (sameT_at hlt hltm he2)
        rw [he2] at Hc
        clear he he2
        go_wp2_with fail
        refine wp_region_ext (by kernel_rfl) (by kernel_rfl) ?_
        repeat (go_big_quiet_step ((go_at_call 65; exact quiet_ext (Hc.out _ (GW.ext _)))))
        refine wpQuiet_nil ?_
        intro w1 hE1
        go_wp2_with fail
        go_ret
        exact ⟨ret_bool He.out.symm, hE.trans' hE1⟩
    · obtain rfl : q = l.length := by omega
      go_wp2_with fail
      go_ret
      exact ⟨ret_bool (sameT_yes h2.out (fun j h1 h2 => H.out j h1 h1 h2)).symm, hE⟩

/-! ### Wide -/
def wideB (t : Tbl) : Bool := t.any (fun l => decide (50 < l.length)) || decide (50 < t.length)
theorem wideB_at {t : Tbl} {k : Nat} (hk : k < t.length) (h : 50 < t[k].length) : wideB t = true := by
  simp only [wideB, Bool.or_eq_true, List.any_eq_true]; exact .inl ⟨t[k], List.getElem_mem hk, by simpa using h⟩
theorem wideB_end {t : Tbl} (h : ∀ j, (hj : j < t.length) → ¬ 50 < t[j].length) : wideB t = decide (50 < t.length) := by
  have : t.any (fun l => decide (50 < l.length)) = false := by
    rw [List.any_eq_false]
    intro x hx
    obtain ⟨j, hj, rfl⟩ := List.getElem_of_mem hx
    simpa using h j hj
  unfold wideB; rw [this]; rfl
theorem wideB_no {t : Tbl} (h : wideB t = false) : t.length ≤ 50 ∧ ∀ j, (hj : j < t.length) → t[j].length ≤ 50 := by
  simp only [wideB, Bool.or_eq_false_iff, List.any_eq_false, decide_eq_false_iff_not] at h
  exact ⟨by omega, fun j hj => by have := h.1 t[j] (List.getElem_mem hj); simpa using this⟩
set_option maxHeartbeats 1000000 in
theorem f13_c (a : Option Addr) (n c : Nat) (l : Tbl) (w : World) (hl : Table w a l) (hn : l.length = n) (hlen : n ≤ 9223372036854775807) :
    Calls Try.prog 13 #[.slice a n c] w fun e w' => e = .returned (.bool (wideB l)) ∧ w = w' := by
  subst hn
  go_enter Try.func13, Try.ntmps13
  go_wp2_with fail
  go_loop [3] (fun i => ∃ k : Nat, k ≤ l.length ∧ i = .int .i64 k ∧ Hid (∀ j, j < k → (hj : j < l.length) → ¬ 50 < l[j].length)) (fun i => l.length - (intOf i).toNat)
  case atStart => exact ⟨0, Nat.zero_le _, rfl, fun j hj => by omega⟩
  case round =>
    obtain ⟨k, hk, rfl, H⟩ := hrel
    by_cases hlt : k < l.length
    · obtain ⟨b1, o1, a1, c1, rfl, hb1, hc1, hI1⟩ := hl k hlt
      by_cases h5 : 50 < l[k].length
      · have Hg := Lib.hid (wideB_at hlt h5)
        go_wp2_with fail
        go_ret
        exact ⟨ret_bool Hg.out.symm, rfl⟩
      · have Hg := Lib.hid h5
        go_wp2_with fail
        go_round
        case rel =>
          refine ⟨k + 1, by omega, by go_num, fun j hj hj2 => ?_⟩
          by_cases e : j = k
          · subst e; exact Hg.out
          · exact H.out j (by omega) hj2
        case measure => simp [intOf]; omega
    · obtain rfl : k = l.length := by omega
      go_wp2_with fail
      go_ret
      exact ⟨ret_bool (by rw [wideB_end fun j hj => H.out j hj hj]; simp <;> omega), rfl⟩

end Go.Proofs.Ytaidoaggmllcfaa
