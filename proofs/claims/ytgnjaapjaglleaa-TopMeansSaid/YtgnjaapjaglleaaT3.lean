/- Contracts of layer 7: loads of the line; totals; pairs. -/
import Derived.Test.YtgnjaapjaglleaaT2
namespace Go.Proofs.Ytgnjaapjaglleaa
open Go.RowKit
attribute [local go_sem] GW.cell

theorem f108_c (n : Int) (w : World) : Calls Try.prog 108 #[.int .i64 n] w fun e w' => e = .returned (.bool (withinB n (-1000) 1000)) ∧ w = w' := by
  go_enter Try.func108, Try.ntmps108
  go_wp2
  all_goals (go_ret; exact ⟨ret_bool (by simp [withinB]; try omega), rfl⟩)

set_option maxHeartbeats 4000000 in
theorem f87_c (a : Option Addr) (n c : Nat) (l : List Atom) (w : World) (hl : Atoms w a l) (hn : l.length = n) (hlen : n ≤ 140737488355328) :
    Calls Try.prog 87 #[.slice a n c] w fun e w' => e = .returned (.int .i64 (valLoad l)) ∧ Ext w w' := by
  subst hn
  by_cases h40 : 6 < l.length
  · have hd : decide (6 < (l.length : Int)) = true := by simp; omega
    go_enter Try.func87, Try.ntmps87
    go_wp2_with fail
    go_ret
    exact ⟨ret_int (by unfold valLoad listErr; rw [if_pos h40]), Below.refl _ _⟩
  · have hd : decide (6 < (l.length : Int)) = false := by simp; omega
    go_enter Try.func87, Try.ntmps87
    go_wp2_with fail
    go_loopw [10] (fun i wr => ∃ k : Nat, k ≤ l.length ∧ i = .int .i64 k ∧ Ext w wr ∧ Hid (∀ j, j < k → goodAt 1000 30 l j = true)) (fun i _ => l.length - (intOf i).toNat)
    case atStart => exact ⟨0, Nat.zero_le _, rfl, Below.refl _ _, fun j hj => by omega⟩
    case round =>
      obtain ⟨k, hk, rfl, hE, H⟩ := hrel
      by_cases hlt : k < l.length
      · obtain ⟨b, off, rfl, hb, hx, hy⟩ := hl.ext hE k hlt
        by_cases h1 : withinB l[k].p (-1000) 1000 = false
        · have Hg := Lib.hid (goodAt_place (P := 1000) (M := 30) hlt h1)
          go_wp2_with fail
          refine wp_region_ext (by kernel_rfl) (by kernel_rfl) ?_
          repeat (go_big_quiet_step ((go_at_call 108; exact quiet_same (f108_c _ _))))
          refine wpQuiet_nil ?_
          intro w1 hE1
          go_wp2_with fail
          go_ret
          exact ⟨ret_int (by unfold valLoad listErr; rw [if_neg h40, isListB_no hlt Hg.out]; rfl), hE.trans' ((ext_alloc _ _).trans' hE1)⟩
        simp only [Bool.not_eq_false] at h1
        rcases Bool.eq_false_or_eq_true (decide (l[k].m < 1)) with d3 | d3
        · have e3 : l[k].m < 1 := by simpa using d3
          have Hg := Lib.hid (goodAt_mass (P := 1000) (M := 30) hlt (by rw [← Bool.not_eq_true, withinB_iff]; omega))
          go_wp2_with fail
          refine wp_region_ext (by kernel_rfl) (by kernel_rfl) ?_
          repeat (go_big_quiet_step ((go_at_call 108; exact quiet_same (f108_c _ _))))
          refine wpQuiet_nil ?_
          intro w1 hE1
          go_wp2_with fail
          go_ret
          exact ⟨ret_int (by unfold valLoad listErr; rw [if_neg h40, isListB_no hlt Hg.out]; rfl), hE.trans' ((ext_alloc _ _).trans' hE1)⟩
        have e3 : ¬ l[k].m < 1 := by simpa using d3
        rcases Bool.eq_false_or_eq_true (decide (30 < l[k].m)) with d4 | d4
        · have e4 : 30 < l[k].m := by simpa using d4
          have Hg := Lib.hid (goodAt_mass (P := 1000) (M := 30) hlt (by rw [← Bool.not_eq_true, withinB_iff]; omega))
          go_wp2_with fail
          refine wp_region_ext (by kernel_rfl) (by kernel_rfl) ?_
          repeat (go_big_quiet_step ((go_at_call 108; exact quiet_same (f108_c _ _))))
          refine wpQuiet_nil ?_
          intro w1 hE1
          go_wp2_with fail
          go_ret
          exact ⟨ret_int (by unfold valLoad listErr; rw [if_neg h40, isListB_no hlt Hg.out]; rfl), hE.trans' ((ext_alloc _ _).trans' hE1)⟩
        have e4 : ¬ 30 < l[k].m := by simpa using d4
        have h2 : withinB l[k].m 1 30 = true := by rw [withinB_iff]; omega
        have h2 := Lib.hid h2
        have H1 := Lib.hid h1
        cases k with
        | zero =>
          simp only [Nat.zero_mul, Nat.add_zero] at hx hy
          have Hg := Lib.hid (goodAt_zero (P := 1000) (M := 30) hlt H1.out h2.out)
          go_wp2_with fail
          refine wp_region_ext (by kernel_rfl) (by kernel_rfl) ?_
          repeat (go_big_quiet_step ((go_at_call 108; exact quiet_same (f108_c _ _))))
          refine wpQuiet_nil ?_
          intro w1 hE1
          go_wp2_with fail
          go_roundw
          case rel =>
            refine ⟨1, by omega, by go_num, hE.trans' ((ext_alloc _ _).trans' hE1), fun j hj => ?_⟩
            rcases Nat.lt_or_ge j (1 - 1) with e | e
            · exact H.out j (by omega)
            · obtain rfl : j = 1 - 1 := by omega
              exact Hg.out
          case measure => simp [intOf]; omega
        | succ q =>
          obtain ⟨b', off', he, hb', hx', hy'⟩ := hl.ext hE q (by omega)
          simp only [Option.some.injEq, Addr.mk.injEq] at he
          obtain ⟨rfl, rfl, -⟩ := he
          rcases Bool.eq_false_or_eq_true (decide (l[q + 1].p ≤ l[q].p)) with h3 | h3
          · have e3 : l[q + 1].p ≤ l[q].p := by simpa using h3
            have Hg := Lib.hid (goodAt_down (P := 1000) (M := 30) hlt e3)
            go_wp2_with fail
            refine wp_region_ext (by kernel_rfl) (by kernel_rfl) ?_
            repeat (go_big_quiet_step ((go_at_call 108; exact quiet_same (f108_c _ _))))
            refine wpQuiet_nil ?_
            intro w1 hE1
            go_wp2_with fail
            go_ret
            exact ⟨ret_int (by unfold valLoad listErr; rw [if_neg h40, isListB_no hlt Hg.out]; rfl), hE.trans' ((ext_alloc _ _).trans' hE1)⟩
          · have e3 : ¬ l[q + 1].p ≤ l[q].p := by simpa using h3
            have Hg := Lib.hid (goodAt_up (P := 1000) (M := 30) hlt H1.out h2.out (by omega))
            go_wp2_with fail
            refine wp_region_ext (by kernel_rfl) (by kernel_rfl) ?_
            repeat (go_big_quiet_step ((go_at_call 108; exact quiet_same (f108_c _ _))))
            refine wpQuiet_nil ?_
            intro w1 hE1
            go_wp2_with fail
            go_roundw
            case rel =>
              refine ⟨q + 1 + 1, by omega, by go_num, hE.trans' ((ext_alloc _ _).trans' hE1), fun j hj => ?_⟩
              rcases Nat.lt_or_ge j (q + 1 + 1 - 1) with e | e
              · exact H.out j (by omega)
              · obtain rfl : j = q + 1 + 1 - 1 := by omega
                exact Hg.out
            case measure => simp [intOf]; omega
      · obtain rfl : k = l.length := by omega
        go_wp2_with fail
        go_ret
        exact ⟨ret_int (by unfold valLoad listErr; rw [if_neg h40, isListB_yes H.out]; rfl), hE⟩

/-- a list of atoms that is not too large to add up -/
def Fine (l : List Atom) : Prop := l.length ≤ 40 ∧ ∀ j, (hj : j < l.length) → (-60000 ≤ l[j].p ∧ l[j].p ≤ 60000) ∧ (1 ≤ l[j].m ∧ l[j].m ≤ 1000)
theorem fine_atoms {l : List Atom} (h : valAtoms l = 0) : Fine l := by
  obtain ⟨h1, h2⟩ := listErr_ok h
  exact ⟨h1, fun j hj => by have := goodAt_spec hj (isListB_at h2 hj); omega⟩
theorem fine_load {l : List Atom} (h : valLoad l = 0) : Fine l := by
  obtain ⟨h1, h2⟩ := listErr_ok h
  exact ⟨by omega, fun j hj => by have := goodAt_spec hj (isListB_at h2 hj); omega⟩
theorem fine_bd {l : List Atom} (h : Fine l) : ∀ k, k ≤ l.length → 0 ≤ totalL (l.take k) ∧ totalL (l.take k) ≤ k * 1000
  | 0, _ => by simp [totalL]
  | k + 1, hk => by
    have h1 := fine_bd h k (by omega)
    have h2 := h.2 k (by omega)
    rw [take_sum l (by omega)]
    omega
theorem fine_total {l : List Atom} (h : Fine l) : 0 ≤ totalL l ∧ totalL l ≤ 40000 := by
  have h1 := fine_bd h l.length (Nat.le_refl _)
  rw [List.take_length] at h1
  have := h.1
  omega

set_option maxHeartbeats 1000000 in
theorem f65_c (a : Option Addr) (n c : Nat) (l : List Atom) (w : World) (hl : Atoms w a l) (hn : l.length = n) (hF : Fine l) :
    Calls Try.prog 65 #[.slice a n c] w fun e w' => e = .returned (.int .i64 (totalL l)) ∧ Ext w w' := by
  subst hn
  have h40 := hF.1
  have Hbd := Lib.hid (fine_bd hF)
  have HF := Lib.hid hF
  clear hF
  go_enter Try.func65, Try.ntmps65
  go_wp2_with fail
  go_loopw [3, 8] (fun s i wr => ∃ k : Nat, k ≤ l.length ∧ i = .int .i64 k ∧ s = .int .i64 (totalL (l.take k)) ∧ Ext w wr) (fun s i _ => l.length - (intOf i).toNat)
  case atStart => exact ⟨0, Nat.zero_le _, rfl, rfl, Below.refl _ _⟩
  case round =>
    obtain ⟨k, hk, rfl, rfl, hE⟩ := hrel
    by_cases hlt : k < l.length
    · obtain ⟨b, off, rfl, hb, hx, hy⟩ := hl.ext hE k hlt
      have h1 := Hbd.out k (by omega)
      have h2 := HF.out.2 k hlt
      have Hs := Lib.hid (take_sum l hlt)
      go_wp2_with fail
      go_roundw
      case rel => exact ⟨k + 1, by omega, by go_num, by rw [Hs.out], hE.trans' (ext_alloc _ _)⟩
      case measure => simp [intOf]; omega
    · obtain rfl : k = l.length := by omega
      go_wp2_with fail
      go_ret
      exact ⟨ret_int (by rw [List.take_length]), hE⟩

set_option maxHeartbeats 1000000 in
theorem f109_c (a : Option Addr) (n c : Nat) (l : List Atom) (w : World) (hl : Atoms w a l) (hn : l.length = n) (hF : Fine l) :
    Calls Try.prog 109 #[.slice a n c] w fun e w' => e = .returned (.int .i64 (totalL l)) ∧ Ext w w' := by
  subst hn
  have h40 := hF.1
  have Hbd := Lib.hid (fine_bd hF)
  have HF := Lib.hid hF
  clear hF
  go_enter Try.func109, Try.ntmps109
  go_wp2_with fail
  go_loopw [3, 8] (fun s i wr => ∃ k : Nat, k ≤ l.length ∧ i = .int .i64 k ∧ s = .int .i64 (totalL (l.take k)) ∧ Ext w wr) (fun s i _ => l.length - (intOf i).toNat)
  case atStart => exact ⟨0, Nat.zero_le _, rfl, rfl, Below.refl _ _⟩
  case round =>
    obtain ⟨k, hk, rfl, rfl, hE⟩ := hrel
    by_cases hlt : k < l.length
    · obtain ⟨b, off, rfl, hb, hx, hy⟩ := hl.ext hE k hlt
      have h1 := Hbd.out k (by omega)
      have h2 := HF.out.2 k hlt
      have Hs := Lib.hid (take_sum l hlt)
      go_wp2_with fail
      go_roundw
      case rel => exact ⟨k + 1, by omega, by go_num, by rw [Hs.out], hE.trans' (ext_alloc _ _)⟩
      case measure => simp [intOf]; omega
    · obtain rfl : k = l.length := by omega
      go_wp2_with fail
      go_ret
      exact ⟨ret_int (by rw [List.take_length]), hE⟩

set_option maxHeartbeats 1000000 in
theorem f69_c (a : Option Addr) (n c : Nat) (l : List Atom) (w : World) (hl : Atoms w a l) (hn : l.length = n) (hF : Fine l) :
    Calls Try.prog 69 #[.slice a n c] w fun e w' => e = .returned (.int .i64 (totalL l)) ∧ Ext w w' := by
  subst hn
  have h40 := hF.1
  have Hbd := Lib.hid (fine_bd hF)
  have HF := Lib.hid hF
  clear hF
  go_enter Try.func69, Try.ntmps69
  go_wp2_with fail
  go_loopw [3, 4] (fun s i wr => ∃ k : Nat, k ≤ l.length ∧ i = .int .i64 k ∧ s = .int .i64 (totalL (l.take k)) ∧ Ext w wr) (fun s i _ => l.length - (intOf i).toNat)
  case atStart => exact ⟨0, Nat.zero_le _, rfl, rfl, Below.refl _ _⟩
  case round =>
    obtain ⟨k, hk, rfl, rfl, hE⟩ := hrel
    by_cases hlt : k < l.length
    · obtain ⟨b, off, rfl, hb, hx, hy⟩ := hl.ext hE k hlt
      have h1 := Hbd.out k (by omega)
      have h2 := HF.out.2 k hlt
      have Hs := Lib.hid (take_sum l hlt)
      go_wp2_with fail
      go_roundw
      case rel => exact ⟨k + 1, by omega, by go_num, by rw [Hs.out], hE⟩
      case measure => simp [intOf]; omega
    · obtain rfl : k = l.length := by omega
      go_wp2_with fail
      go_ret
      exact ⟨ret_int (by rw [List.take_length]), hE⟩

def pairErr (l m : List Atom) : Int := if valAtoms l ≠ 0 then valAtoms l else if valAtoms m ≠ 0 then valAtoms m else if totalL l ≠ totalL m then 5 else 0
theorem pairErr_ok {l m : List Atom} (h : pairErr l m = 0) : valAtoms l = 0 ∧ valAtoms m = 0 ∧ totalL l = totalL m := by
  unfold pairErr at h
  by_cases h1 : valAtoms l = 0
  · rw [if_neg (by simpa using h1)] at h
    by_cases h2 : valAtoms m = 0
    · rw [if_neg (by simpa using h2)] at h
      by_cases h3 : totalL l = totalL m
      · exact ⟨h1, h2, h3⟩
      · rw [if_pos h3] at h; simp at h
    · rw [if_pos h2] at h; exact absurd h h2
  · rw [if_pos h1] at h; exact absurd h h1

set_option maxHeartbeats 1000000 in
theorem f60_c (a a2 : Option Addr) (n c n2 c2 : Nat) (l m : List Atom) (w : World) (hl : Atoms w a l) (hn : l.length = n) (hlen : n ≤ 140737488355328) (hm : Atoms w a2 m) (hn2 : m.length = n2) (hlen2 : n2 ≤ 140737488355328) :
    Calls Try.prog 60 #[.slice a n c, .slice a2 n2 c2] w fun e w' => e = .returned (.int .i64 (pairErr l m)) ∧ Ext w w' := by
  go_enter Try.func60, Try.ntmps60
  go_wp2_with fail
  refine (f49_c a n c l _ hl hn hlen).mono ?_
  rintro e w1 ⟨rfl, hE1⟩
  by_cases h1 : valAtoms l = 0
  · rw [h1]
    have H1 := Lib.hid h1
    clear h1
    go_wp2_with fail
    refine (f49_c a2 n2 c2 m _ (hm.ext hE1) hn2 hlen2).mono ?_
    rintro e w2 ⟨rfl, hE2⟩
    by_cases h2 : valAtoms m = 0
    · rw [h2]
      have H2 := Lib.hid h2
      clear h2
      go_wp2_with fail
      refine (f65_c a n c l _ (hl.ext (hE1.trans' hE2)) hn (fine_atoms H1.out)).mono ?_
      rintro e w3 ⟨rfl, hE3⟩
      go_wp2_with fail
      refine (f65_c a2 n2 c2 m _ (hm.ext (hE1.trans' (hE2.trans' hE3))) hn2 (fine_atoms H2.out)).mono ?_
      rintro e w4 ⟨rfl, hE4⟩
      by_cases h3 : totalL l = totalL m
      · have hb : (totalL l != totalL m) = false := by simp [h3]
        have H3 := Lib.hid h3
        clear h3
        go_wp2_with fail
        go_ret
        exact ⟨ret_int (by unfold pairErr; rw [H1.out, H2.out, H3.out]; simp), hE1.trans' (hE2.trans' (hE3.trans' hE4))⟩
      · have hb : (totalL l != totalL m) = true := by simp [h3]
        have H3 := Lib.hid h3
        clear h3
        go_wp2_with fail
        go_ret
        exact ⟨ret_int (by unfold pairErr; rw [H1.out, H2.out, if_pos H3.out]; simp), hE1.trans' (hE2.trans' (hE3.trans' hE4))⟩
    · have hb : (valAtoms m != 0) = true := by simp [h2]
      have H2 := Lib.hid h2
      clear h2
      go_wp2_with fail
      go_ret
      exact ⟨ret_int (by unfold pairErr; rw [H1.out, if_pos H2.out]; simp), hE1.trans' hE2⟩
  · have hb : (valAtoms l != 0) = true := by simp [h1]
    have H1 := Lib.hid h1
    clear h1
    go_wp2_with fail
    go_ret
    exact ⟨ret_int (by unfold pairErr; rw [if_pos H1.out]), hE1⟩

set_option maxHeartbeats 1000000 in
theorem f62_c (a a2 : Option Addr) (n c n2 c2 : Nat) (l m : List Atom) (w : World) (hl : Atoms w a l) (hn : l.length = n) (hlen : n ≤ 140737488355328) (hm : Atoms w a2 m) (hn2 : m.length = n2) (hlen2 : n2 ≤ 140737488355328) :
    Calls Try.prog 62 #[.slice a n c, .slice a2 n2 c2] w fun e w' => e = .returned (.int .i64 (pairErr l m)) ∧ Ext w w' := by
  go_enter Try.func62, Try.ntmps62
  go_wp2_with fail
  refine (f50_c a n c l _ hl hn hlen).mono ?_
  rintro e w1 ⟨rfl, hE1⟩
  by_cases h1 : valAtoms l = 0
  · rw [h1]
    have H1 := Lib.hid h1
    clear h1
    go_wp2_with fail
    refine (f50_c a2 n2 c2 m _ (hm.ext hE1) hn2 hlen2).mono ?_
    rintro e w2 ⟨rfl, hE2⟩
    by_cases h2 : valAtoms m = 0
    · rw [h2]
      have H2 := Lib.hid h2
      clear h2
      go_wp2_with fail
      refine (f69_c a n c l _ (hl.ext (hE1.trans' hE2)) hn (fine_atoms H1.out)).mono ?_
      rintro e w3 ⟨rfl, hE3⟩
      go_wp2_with fail
      refine (f69_c a2 n2 c2 m _ (hm.ext (hE1.trans' (hE2.trans' hE3))) hn2 (fine_atoms H2.out)).mono ?_
      rintro e w4 ⟨rfl, hE4⟩
      by_cases h3 : totalL l = totalL m
      · have hb : (totalL l != totalL m) = false := by simp [h3]
        have H3 := Lib.hid h3
        clear h3
        go_wp2_with fail
        go_ret
        exact ⟨ret_int (by unfold pairErr; rw [H1.out, H2.out, H3.out]; simp), hE1.trans' (hE2.trans' (hE3.trans' hE4))⟩
      · have hb : (totalL l != totalL m) = true := by simp [h3]
        have H3 := Lib.hid h3
        clear h3
        go_wp2_with fail
        go_ret
        exact ⟨ret_int (by unfold pairErr; rw [H1.out, H2.out, if_pos H3.out]; simp), hE1.trans' (hE2.trans' (hE3.trans' hE4))⟩
    · have hb : (valAtoms m != 0) = true := by simp [h2]
      have H2 := Lib.hid h2
      clear h2
      go_wp2_with fail
      go_ret
      exact ⟨ret_int (by unfold pairErr; rw [H1.out, if_pos H2.out]; simp), hE1.trans' hE2⟩
  · have hb : (valAtoms l != 0) = true := by simp [h1]
    have H1 := Lib.hid h1
    clear h1
    go_wp2_with fail
    go_ret
    exact ⟨ret_int (by unfold pairErr; rw [if_pos H1.out]), hE1⟩

end Go.Proofs.Ytgnjaapjaglleaa
