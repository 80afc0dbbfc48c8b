/- Contracts of the line: loads, totals, heaps, areas. -/
import Derived.WalkKit
import Derived.WalkSpells
import Derived.WalkLawsBesides
import Derived.Deep.QuietTactic
import Derived.BigQuiet
import Derived.Lib.Hide
import Derived.Test.YtfhgnmijigdlmaaProg
import Derived.Test.YtfhgnmijigdlmaaPE
namespace Go.Proofs.Ytfhgnmijigdlmaa
open Go.RowKit
attribute [local go_sem] GW.cell

theorem f91_c (n : Int) (w : World) : Calls Try.prog 91 #[.int .i64 n] w fun e w' => e = .returned (.bool (withinB n (-1000) 1000)) ∧ w = w' := by
  go_enter Try.func91, Try.ntmps91
  go_wp2
  all_goals (go_ret; exact ⟨ret_bool (by simp [withinB]; try omega), rfl⟩)
set_option maxHeartbeats 4000000 in
theorem f47_c (a : Option Addr) (n c : Nat) (l : List Atom) (w : World) (hl : Atoms w a l) (hn : l.length = n) (hlen : n ≤ 140737488355328) :
    Calls Try.prog 47 #[.slice a n c] w fun e w' => e = .returned (.int .i64 (valLoad l)) ∧ Ext w w' := by
  subst hn
  by_cases h40 : 6 < l.length
  · have hd : decide (6 < (l.length : Int)) = true := by simp; omega
    go_enter Try.func47, Try.ntmps47
    go_wp2_with fail
    go_ret
    exact ⟨ret_int (by unfold valLoad listErr; rw [if_pos h40]), Below.refl _ _⟩
  · have hd : decide (6 < (l.length : Int)) = false := by simp; omega
    go_enter Try.func47, Try.ntmps47
    go_wp2_with fail
    go_loopw [10] (fun i wr => ∃ k : Nat, k ≤ l.length ∧ i = .int .i64 k ∧ Ext w wr ∧ Hid (∀ j, j < k → goodAt 1000 30 l j = true)) (fun i _ => l.length - (intOf i).toNat)
    case atStart => exact ⟨0, Nat.zero_le _, rfl, Below.refl _ _, fun j hj => by omega⟩
    case round =>
      obtain ⟨k, hk, rfl, hE, H⟩ := hrel
      by_cases hlt : k < l.length
      · obtain ⟨b, off, rfl, hb, hx, hy⟩ := hl.ext hE k hlt
        by_cases h1 : withinB l[k].p (-1000) 1000 = false
        · have Hg := Lib.hid (goodAt_place (P := 1000) (M := 30) hlt h1)
          go_wp2_with fail
          refine wp_region_ext (by kernel_rfl) (by kernel_rfl) ?_
          repeat (go_big_quiet_step ((go_at_call 91; exact quiet_same (f91_c _ _))))
          refine wpQuiet_nil ?_
          intro w1 hE1
          go_wp2_with fail
          go_ret
          exact ⟨ret_int (by unfold valLoad listErr; rw [if_neg h40, isListB_no hlt Hg.out]; rfl), hE.trans' ((ext_alloc _ _).trans' hE1)⟩
        simp only [Bool.not_eq_false] at h1
        rcases Bool.eq_false_or_eq_true (decide (l[k].m < 1)) with d3 | d3
        · have e3 : l[k].m < 1 := by simpa using d3
          have Hg := Lib.hid (goodAt_mass (P := 1000) (M := 30) hlt (by rw [← Bool.not_eq_true, withinB_iff]; omega))
          go_wp2_with fail
          refine wp_region_ext (by kernel_rfl) (by kernel_rfl) ?_
          repeat (go_big_quiet_step ((go_at_call 91; exact quiet_same (f91_c _ _))))
          refine wpQuiet_nil ?_
          intro w1 hE1
          go_wp2_with fail
          go_ret
          exact ⟨ret_int (by unfold valLoad listErr; rw [if_neg h40, isListB_no hlt Hg.out]; rfl), hE.trans' ((ext_alloc _ _).trans' hE1)⟩
        have e3 : ¬ l[k].m < 1 := by simpa using d3
        rcases Bool.eq_false_or_eq_true (decide (30 < l[k].m)) with d4 | d4
        · have e4 : 30 < l[k].m := by simpa using d4
          have Hg := Lib.hid (goodAt_mass (P := 1000) (M := 30) hlt (by rw [← Bool.not_eq_true, withinB_iff]; omega))
          go_wp2_with fail
          refine wp_region_ext (by kernel_rfl) (by kernel_rfl) ?_
          repeat (go_big_quiet_step ((go_at_call 91; exact quiet_same (f91_c _ _))))
          refine wpQuiet_nil ?_
          intro w1 hE1
          go_wp2_with fail
          go_ret
          exact ⟨ret_int (by unfold valLoad listErr; rw [if_neg h40, isListB_no hlt Hg.out]; rfl), hE.trans' ((ext_alloc _ _).trans' hE1)⟩
        have e4 : ¬ 30 < l[k].m := by simpa using d4
        have h2 : withinB l[k].m 1 30 = true := by rw [withinB_iff]; omega
        have h2 := Lib.hid h2
        have H1 := Lib.hid h1
        cases k with
        | zero =>
          simp only [Nat.zero_mul, Nat.add_zero] at hx hy
          have Hg := Lib.hid (goodAt_zero (P := 1000) (M := 30) hlt H1.out h2.out)
          go_wp2_with fail
          refine wp_region_ext (by kernel_rfl) (by kernel_rfl) ?_
          repeat (go_big_quiet_step ((go_at_call 91; exact quiet_same (f91_c _ _))))
          refine wpQuiet_nil ?_
          intro w1 hE1
          go_wp2_with fail
          go_roundw
          case rel =>
            refine ⟨1, by omega, by go_num, hE.trans' ((ext_alloc _ _).trans' hE1), fun j hj => ?_⟩
            rcases Nat.lt_or_ge j (1 - 1) with e | e
            · exact H.out j (by omega)
            · obtain rfl : j = 1 - 1 := by omega
              exact Hg.out
          case measure => simp [intOf]; omega
        | succ q =>
          obtain ⟨b', off', he, hb', hx', hy'⟩ := hl.ext hE q (by omega)
          simp only [Option.some.injEq, Addr.mk.injEq] at he
          obtain ⟨rfl, rfl, -⟩ := he
          rcases Bool.eq_false_or_eq_true (decide (l[q + 1].p ≤ l[q].p)) with h3 | h3
          · have e3 : l[q + 1].p ≤ l[q].p := by simpa using h3
            have Hg := Lib.hid (goodAt_down (P := 1000) (M := 30) hlt e3)
            go_wp2_with fail
            refine wp_region_ext (by kernel_rfl) (by kernel_rfl) ?_
            repeat (go_big_quiet_step ((go_at_call 91; exact quiet_same (f91_c _ _))))
            refine wpQuiet_nil ?_
            intro w1 hE1
            go_wp2_with fail
            go_ret
            exact ⟨ret_int (by unfold valLoad listErr; rw [if_neg h40, isListB_no hlt Hg.out]; rfl), hE.trans' ((ext_alloc _ _).trans' hE1)⟩
          · have e3 : ¬ l[q + 1].p ≤ l[q].p := by simpa using h3
            have Hg := Lib.hid (goodAt_up (P := 1000) (M := 30) hlt H1.out h2.out (by omega))
            go_wp2_with fail
            refine wp_region_ext (by kernel_rfl) (by kernel_rfl) ?_
            repeat (go_big_quiet_step ((go_at_call 91; exact quiet_same (f91_c _ _))))
            refine wpQuiet_nil ?_
            intro w1 hE1
            go_wp2_with fail
            go_roundw
            case rel =>
              refine ⟨q + 1 + 1, by omega, by go_num, hE.trans' ((ext_alloc _ _).trans' hE1), fun j hj => ?_⟩
              rcases Nat.lt_or_ge j (q + 1 + 1 - 1) with e | e
              · exact H.out j (by omega)
              · obtain rfl : j = q + 1 + 1 - 1 := by omega
                exact Hg.out
            case measure => simp [intOf]; omega
      · obtain rfl : k = l.length := by omega
        go_wp2_with fail
        go_ret
        exact ⟨ret_int (by unfold valLoad listErr; rw [if_neg h40, isListB_yes H.out]; rfl), hE⟩
set_option maxHeartbeats 1000000 in
theorem f81_c (a : Option Addr) (n c : Nat) (l : List Atom) (w : World) (hl : Atoms w a l) (hn : l.length = n) (hF : Fine l) :
    Calls Try.prog 81 #[.slice a n c] w fun e w' => e = .returned (.int .i64 (totalL l)) ∧ Ext w w' := by
  subst hn
  have h40 := hF.1
  have Hbd := Lib.hid (fine_bd hF)
  have HF := Lib.hid hF
  clear hF
  go_enter Try.func81, Try.ntmps81
  go_wp2_with fail
  go_loopw [3, 8] (fun s i wr => ∃ k : Nat, k ≤ l.length ∧ i = .int .i64 k ∧ s = .int .i64 (totalL (l.take k)) ∧ Ext w wr) (fun s i _ => l.length - (intOf i).toNat)
  case atStart => exact ⟨0, Nat.zero_le _, rfl, rfl, Below.refl _ _⟩
  case round =>
    obtain ⟨k, hk, rfl, rfl, hE⟩ := hrel
    by_cases hlt : k < l.length
    · obtain ⟨b, off, rfl, hb, hx, hy⟩ := hl.ext hE k hlt
      have h1 := Hbd.out k (by omega)
      have h2 := HF.out.2 k hlt
      have Hs := Lib.hid (take_sum l hlt)
      go_wp2_with fail
      go_roundw
      case rel => exact ⟨k + 1, by omega, by go_num, by rw [Hs.out], hE.trans' (ext_alloc _ _)⟩
      case measure => simp [intOf]; omega
    · obtain rfl : k = l.length := by omega
      go_wp2_with fail
      go_ret
      exact ⟨ret_int (by rw [List.take_length]), hE⟩
theorem ret_ii {a b c d : Int} (h : a = b) (k : c = d) : Ending.returned (.tuple #[.int .i64 a, .int .i64 c]) = .returned (.tuple #[.int .i64 b, .int .i64 d]) := by rw [h, k]

set_option maxHeartbeats 2000000 in
theorem f64_c (a a2 : Option Addr) (n c n2 c2 : Nat) (l m : List Atom) (w : World) (hl : Atoms w a l) (hn : l.length = n) (hlen : n ≤ 140737488355328) (hm : Atoms w a2 m) (hn2 : m.length = n2) (hlen2 : n2 ≤ 140737488355328) :
    Calls Try.prog 64 #[.slice a n c, .slice a2 n2 c2] w fun e w' => e = .returned (.int .i64 (bothErr l m)) ∧ Ext w w' := by
  subst hn hn2
  go_enter Try.func64, Try.ntmps64
  go_wp2_with fail
  refine (f47_c a l.length c l _ hl rfl hlen).mono ?_
  rintro e w1 ⟨rfl, hE1⟩
  by_cases h0 : valLoad l = 0
  case neg =>
    have hb : (valLoad l != 0) = true := by simp [h0]
    have HR : Hid (bothErr l m = valLoad l) := Lib.hid (by unfold bothErr; rw [if_pos h0])
    clear h0
    go_wp2_with fail
    go_ret
    exact ⟨ret_int HR.out.symm, hE1⟩
  have HR : Hid (bothErr l m = valLoad m) := Lib.hid (by unfold bothErr; rw [if_neg (by simpa using h0)])
  rw [h0]
  clear h0
  go_wp2_with fail
  refine (f47_c a2 m.length c2 m _ (hm.ext hE1) rfl hlen2).mono ?_
  rintro e w2 ⟨rfl, hX2⟩
  go_wp2_with fail
  go_ret
  exact ⟨ret_int HR.out.symm, hE1.trans' hX2⟩
set_option maxHeartbeats 2000000 in
theorem f65_c (a a2 : Option Addr) (n c n2 c2 : Nat) (l m : List Atom) (w : World) (hl : Atoms w a l) (hn : l.length = n) (hlen : n ≤ 140737488355328) (hm : Atoms w a2 m) (hn2 : m.length = n2) (hlen2 : n2 ≤ 140737488355328) :
    Calls Try.prog 65 #[.slice a n c, .slice a2 n2 c2] w fun e w' => e = .returned (.int .i64 (linePair l m)) ∧ Ext w w' := by
  subst hn hn2
  go_enter Try.func65, Try.ntmps65
  go_wp2_with fail
  refine (f64_c a a2 l.length c m.length c2 l m _ hl rfl hlen hm rfl hlen2).mono ?_
  rintro e w1 ⟨rfl, hE1⟩
  by_cases h0 : bothErr l m = 0
  case neg =>
    have hb : (bothErr l m != 0) = true := by simp [h0]
    have HR : Hid (linePair l m = bothErr l m) := Lib.hid (by unfold linePair; rw [if_pos h0])
    clear h0
    go_wp2_with fail
    go_ret
    exact ⟨ret_int HR.out.symm, hE1⟩
  obtain ⟨v1, v2⟩ := bothErr_ok h0
  have F1 := Lib.hid (fine_load v1)
  have F2 := Lib.hid (fine_load v2)
  have H0 := Lib.hid h0
  rw [h0]
  clear h0 v1 v2
  go_wp2_with fail
  refine (f81_c a l.length c l _ (hl.ext hE1) rfl F1.out).mono ?_
  rintro e w2 ⟨rfl, hX2⟩
  have hE2 := hE1.trans' hX2
  go_wp2_with fail
  refine (f81_c a2 m.length c2 m _ (hm.ext hE2) rfl F2.out).mono ?_
  rintro e w3 ⟨rfl, hX3⟩
  have hE3 := hE2.trans' hX3
  by_cases ht : totalL l = totalL m
  · have hb : (totalL l != totalL m) = false := by simp [ht]
    have HR : Hid (linePair l m = 0) := Lib.hid (by unfold linePair; rw [if_neg (by simpa using H0.out), if_neg (by simpa using ht)])
    clear ht
    generalize totalL l = T1 at *
    generalize totalL m = T2 at *
    go_wp2_with fail
    go_ret
    exact ⟨ret_int HR.out.symm, hE3⟩
  · have hb : (totalL l != totalL m) = true := by simp [ht]
    have HR : Hid (linePair l m = 5) := Lib.hid (by unfold linePair; rw [if_neg (by simpa using H0.out), if_pos ht])
    clear ht
    generalize totalL l = T1 at *
    generalize totalL m = T2 at *
    go_wp2_with fail
    go_ret
    exact ⟨ret_int HR.out.symm, hE3⟩
theorem belTo_bd {l : List Atom} (hF : Fine l) (t : Int) {k : Nat} (hk : k ≤ l.length) : 0 ≤ belTo l t k ∧ belTo l t k ≤ k * 1000 := by
  have h := sumR_bd (f := fun i => if (atK l i).p ≤ t then (atK l i).m else 0) (A := 0) (B := 1000) (n := l.length) (fun i hi => by
    have := hF.2 i hi
    rw [atK_at hi]
    split <;> omega) k hk
  unfold belTo
  omega
set_option maxHeartbeats 2000000 in
theorem f78_c (a : Option Addr) (n c : Nat) (l : List Atom) (t : Int) (w : World) (hl : Atoms w a l) (hn : l.length = n) (hF : Fine l) :
    Calls Try.prog 78 #[.slice a n c, .int .i64 t] w fun e w' => e = .returned (.int .i64 (belTo l t l.length)) ∧ Ext w w' := by
  subst hn
  have h40 := hF.1
  have Hbd := Lib.hid (fun k (hk : k ≤ l.length) => belTo_bd hF t hk)
  have HF := Lib.hid hF
  clear hF
  go_enter Try.func78, Try.ntmps78
  go_wp2_with fail
  go_loopw [5, 10] (fun s i wr => ∃ k : Nat, k ≤ l.length ∧ i = .int .i64 k ∧ s = .int .i64 (belTo l t k) ∧ Ext w wr) (fun s i _ => l.length - (intOf i).toNat)
  case atStart => exact ⟨0, Nat.zero_le _, rfl, rfl, Below.refl _ _⟩
  case round =>
    obtain ⟨k, hk, rfl, rfl, hE⟩ := hrel
    by_cases hlt : k < l.length
    · obtain ⟨b, off, rfl, hb, hx, hy⟩ := hl.ext hE k hlt
      have h1 := Hbd.out k (by omega)
      have h2 := HF.out.2 k hlt
      have Hs : Hid (belTo l t (k + 1) = belTo l t k + (if l[k].p ≤ t then l[k].m else 0)) := Lib.hid (by unfold belTo; simp only [sumR]; rw [atK_at hlt])
      generalize belTo l t k = B0 at *
      by_cases hle : l[k].p ≤ t
      · rw [if_pos hle] at Hs
        generalize l[k].p = pp at *
        generalize l[k].m = mm at *
        go_wp2_with fail
        go_roundw
        case rel => exact ⟨k + 1, by omega, by go_num, by rw [Hs.out], hE.trans' (ext_alloc _ _)⟩
        case measure => simp [intOf]; omega
      · rw [if_neg hle, Int.add_zero] at Hs
        generalize l[k].p = pp at *
        generalize l[k].m = mm at *
        go_wp2_with fail
        go_roundw
        case rel => exact ⟨k + 1, by omega, by go_num, by rw [Hs.out], hE.trans' (ext_alloc _ _)⟩
        case measure => simp [intOf]; omega
    · obtain rfl : k = l.length := by omega
      go_wp2_with fail
      go_ret
      exact ⟨rfl, hE⟩
def areaV (l m : List Atom) : Int := if linePair l m = 0 then areaTo l m 2000 else 0
theorem areaTo_bd {l m : List Atom} (hF : Fine l) (hG : Fine m) {j : Nat} (hj : j ≤ 2000) : 0 ≤ areaTo l m j ∧ areaTo l m j ≤ j * 40000 := by
  have h := sumR_bd (f := fun i => distI (belTo m ((i : Int) - 1000) m.length) (belTo l ((i : Int) - 1000) l.length)) (A := 0) (B := 40000) (n := 2000) (fun i hi => by
    have h1 := belTo_bd hF ((i : Int) - 1000) (Nat.le_refl _)
    have h2 := belTo_bd hG ((i : Int) - 1000) (Nat.le_refl _)
    have h3 := hF.1
    have h4 := hG.1
    unfold distI
    split <;> omega) j hj
  unfold areaTo
  omega
set_option maxHeartbeats 4000000 in
theorem f26_c (a a2 : Option Addr) (n c n2 c2 : Nat) (l m : List Atom) (w : World) (hl : Atoms w a l) (hn : l.length = n) (hlen : n ≤ 140737488355328) (hm : Atoms w a2 m) (hn2 : m.length = n2) (hlen2 : n2 ≤ 140737488355328) :
    Calls Try.prog 26 #[.slice a n c, .slice a2 n2 c2] w fun e w' => e = .returned (.tuple #[.int .i64 (areaV l m), .int .i64 (linePair l m)]) ∧ Ext w w' := by
  subst hn hn2
  go_enter Try.func26, Try.ntmps26
  go_wp2_with fail
  refine (f65_c a a2 l.length c m.length c2 l m _ hl rfl hlen hm rfl hlen2).mono ?_
  rintro e w1 ⟨rfl, hE1⟩
  by_cases h0 : linePair l m = 0
  case neg =>
    have hb : (linePair l m != 0) = true := by simp [h0]
    have HV : Hid (areaV l m = 0) := Lib.hid (by unfold areaV; rw [if_neg h0])
    clear h0
    go_wp2_with fail
    go_ret2
    exact ⟨ret_ii HV.out.symm rfl, hE1⟩
  have H0 := Lib.hid h0
  have HV : Hid (areaV l m = areaTo l m 2000) := Lib.hid (by unfold areaV; rw [if_pos h0])
  obtain ⟨v1, v2, -⟩ := linePair_ok h0
  have F1 := Lib.hid (fine_load v1)
  have F2 := Lib.hid (fine_load v2)
  have h41 := F1.out.1
  have h42 := F2.out.1
  have Hbd := Lib.hid (fun j (hj : j ≤ 2000) => areaTo_bd F1.out F2.out hj)
  rw [h0]
  clear h0 v1 v2
  go_wp2_with fail
  go_loopw [7, 8] (fun s i wr => ∃ j : Nat, j ≤ 2000 ∧ i = .int .i64 ((j : Int) - 1000) ∧ s = .int .i64 (areaTo l m j) ∧ Ext w1 wr) (fun _ i _ => (1000 - intOf i).toNat)
  case atStart => exact ⟨0, Nat.zero_le _, rfl, rfl, Below.refl _ _⟩
  case round =>
    obtain ⟨j, hj, rfl, rfl, hX2⟩ := hrel
    have hE2 := hE1.trans' hX2
    by_cases hlt : j < 2000
    · have hb0 := Hbd.out j hj
      have Hs : Hid (areaTo l m (j + 1) = areaTo l m j + distI (belTo m ((j : Int) - 1000) m.length) (belTo l ((j : Int) - 1000) l.length)) := Lib.hid rfl
      have b1 := belTo_bd F1.out ((j : Int) - 1000) (Nat.le_refl _)
      have b2 := belTo_bd F2.out ((j : Int) - 1000) (Nat.le_refl _)
      have HC1 := Lib.hid (fun W (hW : Ext w W) => f78_c a l.length c l ((j : Int) - 1000) W (hl.ext hW) rfl F1.out)
      have HC2 := Lib.hid (fun W (hW : Ext w W) => f78_c a2 m.length c2 m ((j : Int) - 1000) W (hm.ext hW) rfl F2.out)
      generalize belTo l ((j : Int) - 1000) l.length = B1 at *
      generalize belTo m ((j : Int) - 1000) m.length = B2 at *
      generalize areaTo l m j = A0 at *
      have hlt2 : (j : Int) - 1000 < 1000 := by omega
      go_wp2_with fail
      refine (HC1.out _ hE2).mono ?_
      rintro e w3 ⟨rfl, hX3⟩
      have hX3 := hX2.trans' hX3
      go_wp2_with fail
      refine (HC2.out _ (hE1.trans' hX3)).mono ?_
      rintro e w4 ⟨rfl, hX4⟩
      have hX4 := hX3.trans' hX4
      go_wp2_with fail
      go_roundw
      case rel => exact ⟨j + 1, by omega, by congr 1 <;> omega, by rw [Hs.out]; congr 1; unfold distI; split <;> split <;> omega, hX4⟩
      case measure => simp [intOf] <;> omega
    · obtain rfl : j = 2000 := by omega
      go_wp2_with fail
      go_ret2
      exact ⟨ret_ii HV.out.symm H0.out.symm, hE2⟩
end Go.Proofs.Ytfhgnmijigdlmaa
