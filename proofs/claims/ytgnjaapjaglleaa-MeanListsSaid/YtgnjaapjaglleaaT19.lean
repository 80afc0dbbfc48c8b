/- Contracts of layer 7: FromUnits, Units, SameInts. -/
import Derived.Test.YtgnjaapjaglleaaT18
import Derived.Test.YtgnjaapjaglleaaP14
import Derived.Test.YtgnjaapjaglleaaT16
namespace Go.Proofs.Ytgnjaapjaglleaa
open Go.RowKit
attribute [local go_sem] GW.cell

theorem from_bad {U : List Int} {w w' : World} {e : Int} (h : fromErr U = e) (he : e ≠ 0) (hE : Ext w w') : RetAtoms (fromL U) (fromErr U) w (.returned (.tuple #[.slice none 0 0, .int .i64 e])) w' := by
  unfold fromL; rw [h, if_neg he]; exact retA_nil hE
theorem units_bad {l : List Atom} {w w' : World} {e : Int} (h : unitsErr l = e) (he : e ≠ 0) (hE : Ext w w') : RetInts (unitsV l) (unitsErr l) w (.returned (.tuple #[.slice none 0 0, .int .i64 e])) w' := by
  unfold unitsV; rw [h, if_neg he]; exact retInts_nil hE
theorem near_at {U : List Int} {k : Nat} (hk : k < U.length) (h : nearB (gi U k) = false) : U.all nearB = false := nearB_no hk rfl h
set_option maxRecDepth 20000 in
set_option maxHeartbeats 4000000 in
theorem f42_c (a : Option Addr) (n c : Nat) (U : List Int) (w : World) (hl : Ints w a U) (hn : U.length = n) (hlen : n ≤ 140737488355328) :
    Calls Try.prog 42 #[.slice a n c] w (RetAtoms (fromL U) (fromErr U) w) := by
  subst hn
  go_enter Try.func42, Try.ntmps42
  by_cases h1 : 1000 < U.length
  · have H1 := Lib.hid h1
    go_wp2_with fail
    go_ret2
    exact from_bad (from_three H1.out) (by omega) (Below.refl _ _)
  go_wp2_with fail
  refine (f82_83 a c U _ hl (by omega)).mono ?_
  rintro e w0 ⟨rfl, rfl⟩
  rw [any_near]
  have hU : U.length ≤ 1000 := by omega
  rcases Bool.eq_false_or_eq_true (U.all nearB) with h2 | h2
  case inr =>
    rw [h2]
    have H2 := Lib.hid h2
    clear h2
    go_wp2_with fail
    go_ret2
    exact from_bad (from_one hU H2.out) (by omega) (Below.refl _ _)
  rw [h2]
  have H2 := Lib.hid h2
  clear h2
  have hE1 := ext_alloc w (.cells #[.slice a U.length c] 30)
  have b1 := Boxed.new w 30 (.slice a U.length c)
  go_wp2_with fail
  refine (f85_c a U.length c w).mono ?_
  rintro e w1 ⟨rfl, hw1⟩
  rw [hw1] at hE1 b1
  clear hw1
  go_wp2_with fail
  refine (f84_c a c U (by omega) w.heap.size w1 b1 (hl.ext hE1)).mono ?_
  rintro e w2 ⟨a2, c2, rfl, hI, hX2⟩
  have hE2 := hE1.trans' hX2
  have hsl := sortI_length U
  have hs2 : (sortI U).length ≤ 40000 := by omega
  have Hfin := Lib.hid (fun W (h : Ints W a2 (sortI U)) => f67_c a2 (sortI U).length c2 (sortI U) W h rfl hs2)
  clear hsl
  go_wp2_with fail
  refine (Hfin.out _ hI).mono ?_
  rintro e w5 ⟨v5, rfl, hrow, hX5⟩
  obtain ⟨a5, c5, rfl, hA5⟩ := atoms_of_row hrow
  have hE5 := hE2.trans' hX5
  have hC := collect_len40 hs2
  have Hrow := Lib.hid (row_base hrow hE2.size)
  have HY := Lib.hid (fun h3 => from_yes hU H2.out h3)
  clear hrow
  by_cases h3 : (collectL (sortI U)).length ≤ 40
  · have HZ := Lib.hid (from_zero hU H2.out h3)
    have HLL : Hid (fromL U = collectL (sortI U)) := Lib.hid (by unfold fromL; rw [if_pos HZ.out])
    have hv := HY.out h3
    generalize fromErr U = E at *
    generalize fromL U = L at *
    generalize collectL (sortI U) = C at *
    go_wp2_with fail
    refine (f81_yes a5 C.length c5 C w5 hA5 rfl (by omega) hv).mono ?_
    rintro e w6 ⟨rfl, hX6⟩
    go_wp2_with fail
    go_ret2
    exact ⟨_, ret_vi rfl HZ.out.symm, by rw [HLL.out]; exact row_ext Hrow.out hX6, hE5.trans' hX6⟩
  · have HR := Lib.hid (fun w' (hE : Ext w w') => from_bad (w' := w') (from_far hU H2.out h3) (by omega) hE)
    have hv : valAtoms (collectL (sortI U)) ≠ 0 := fun h => h3 (listErr_ok h).1
    generalize fromErr U = E at *
    generalize fromL U = L at *
    generalize collectL (sortI U) = C at *
    go_wp2_with fail
    refine (f81_no a5 C.length c5 C w5 hA5 rfl (by omega) hv).mono ?_
    rintro e w6 ⟨rfl, hX6⟩
    go_wp2_with fail
    go_ret2
    exact HR.out _ (hE5.trans' hX6)

set_option maxRecDepth 20000 in
set_option maxHeartbeats 4000000 in
theorem f43_c (a : Option Addr) (n c : Nat) (U : List Int) (w : World) (hl : Ints w a U) (hn : U.length = n) (hlen : n ≤ 140737488355328) :
    Calls Try.prog 43 #[.slice a n c] w (RetAtoms (fromL U) (fromErr U) w) := by
  subst hn
  go_enter Try.func43, Try.ntmps43
  by_cases h1 : 1000 < U.length
  · have H1 := Lib.hid h1
    go_wp2_with fail
    go_ret2
    exact from_bad (from_three H1.out) (by omega) (Below.refl _ _)
  have hU : U.length ≤ 1000 := by omega
  go_wp2_with fail
  go_loopw [4] (fun i wr => ∃ q : Nat, q ≤ U.length ∧ i = .int .i64 q ∧ Ext w wr ∧ Hid (∀ k, k < q → nearB (gi U k) = true)) (fun i _ => U.length - (intOf i).toNat)
  case atStart => exact ⟨0, Nat.zero_le _, rfl, Below.refl _ _, Lib.hid (fun k hk => absurd hk (by omega))⟩
  case round =>
    obtain ⟨q, hq, rfl, hE, HN⟩ := hrel
    by_cases hlt : q < U.length
    · obtain ⟨b, off, rfl, hb, hc⟩ := hl.ext hE q hlt
      rw [← gi_at] at hc
      have Hg := Lib.hid (fun h => near_at (U := U) hlt h)
      obtain ⟨z, hz⟩ : ∃ z, gi U q = z := ⟨_, rfl⟩
      rw [hz] at hc Hg
      have Hz := Lib.hid hz
      clear hz
      go_wp2_with fail
      refine (f73_c z (-60000) 60000 _).mono ?_
      rintro e w0 ⟨rfl, rfl⟩
      rcases Bool.eq_false_or_eq_true (withinB z (-60000) 60000) with hs3 | hs3
      · rw [hs3]
        have HN2 : Hid (∀ k, k < q + 1 → nearB (gi U k) = true) := Lib.hid (fun k hk => by
          by_cases hkq : k = q
          · subst hkq; rw [Hz.out]; exact hs3
          · exact HN.out k (by omega))
        clear hs3 HN
        go_wp2_with fail
        go_roundw
        case rel => exact ⟨q + 1, by omega, by go_num, hE, HN2⟩
        case measure => simp [intOf]; omega
      · rw [hs3]
        have HF := Lib.hid (Hg.out hs3)
        clear hs3
        go_wp2_with fail
        go_ret2
        exact from_bad (from_one hU HF.out) (by omega) hE
    · obtain rfl : q = U.length := by omega
      have H2 := Lib.hid (nearB_yes (fun k hk => HN.out k hk))
      obtain ⟨wo, rfl⟩ : ∃ wo : World, wo = wr := ⟨_, rfl⟩
      go_wp2_with fail
      refine (f86_i a U.length c U _ (hl.ext hE) rfl (by omega)).mono ?_
      rintro e w2 ⟨a2, c2, rfl, hI, hX2⟩
      have hE2 := hE.trans' hX2
      have hsl := sortI_length U
      have hs2 : (sortI U).length ≤ 40000 := by omega
      have Hfin := Lib.hid (fun W (h : Ints W a2 (sortI U)) => f71_c a2 (sortI U).length c2 (sortI U) W h rfl hs2)
      clear hsl
      go_wp2_with fail
      refine (Hfin.out _ hI).mono ?_
      rintro e w5 ⟨v5, rfl, hrow, hX5⟩
      obtain ⟨a5, c5, rfl⟩ := slice_form hrow
      have hE5 := hE2.trans' hX5
      have hC := collect_len40 hs2
      have Hrow := Lib.hid (row_base hrow hE2.size)
      clear hrow
      by_cases h3 : (collectL (sortI U)).length ≤ 40
      · have HZ := Lib.hid (from_zero hU H2.out h3)
        have HLL : Hid (fromL U = collectL (sortI U)) := Lib.hid (by unfold fromL; rw [if_pos HZ.out])
        generalize fromErr U = E at *
        generalize fromL U = L at *
        generalize collectL (sortI U) = C at *
        go_wp2_with fail
        go_ret2
        exact ⟨_, ret_vi rfl HZ.out.symm, by rw [HLL.out]; exact Hrow.out, hE5⟩
      · have HR := Lib.hid (fun w' (hE : Ext w w') => from_bad (w' := w') (from_far hU H2.out h3) (by omega) hE)
        generalize fromErr U = E at *
        generalize fromL U = L at *
        generalize collectL (sortI U) = C at *
        go_wp2_with fail
        go_ret2
        exact HR.out _ hE5

set_option maxHeartbeats 2000000 in
theorem f44_same (a b : Option Addr) (n m c d : Nat) (l : List Int) (w : World) (hl : Ints w a l) (hk : Ints w b l) (hn : l.length = n) (hm : l.length = m) (hn1 : n ≤ 140737488355328) :
    Calls Try.prog 44 #[.slice a n c, .slice b m d] w fun e w' => e = .returned (.bool true) ∧ Ext w w' := by
  subst hn
  obtain rfl := hm
  go_enter Try.func44, Try.ntmps44
  go_wp2_with fail
  go_loopw [5] (fun i wr => ∃ j : Nat, j ≤ l.length ∧ i = .int .i64 j ∧ Ext w wr) (fun i _ => l.length - (intOf i).toNat)
  case atStart => exact ⟨0, by omega, rfl, Below.refl _ _⟩
  case round =>
    obtain ⟨j, hj, rfl, hE⟩ := hrel
    by_cases hlt : j < l.length
    · obtain ⟨b1, o1, rfl, hb1, x1⟩ := hl.ext hE j hlt
      obtain ⟨b2, o2, rfl, hb2, x2⟩ := hk.ext hE j hlt
      rw [← gi_at] at x1 x2
      generalize gi l j = z at *
      go_wp2_with fail
      refine wp_region_ext (by kernel_rfl) (by kernel_rfl) ?_
      repeat (go_big_quiet_step (fail))
      refine wpQuiet_nil ?_
      intro w1 hE1
      go_wp2_with fail
      go_roundw
      case rel => exact ⟨j + 1, by omega, by go_num, hE.trans' hE1⟩
      case measure => simp [intOf]; omega
    · obtain rfl : j = l.length := by omega
      go_wp2_with fail
      go_ret
      exact ⟨rfl, hE⟩

set_option maxHeartbeats 2000000 in
theorem f45_c (a : Option Addr) (n c : Nat) (l : List Atom) (w : World) (hl : Atoms w a l) (hn : l.length = n) (hlen : n ≤ 140737488355328) :
    Calls Try.prog 45 #[.slice a n c] w (RetInts (unitsV l) (unitsErr l) w) := by
  subst hn
  go_enter Try.func45, Try.ntmps45
  go_wp2_with fail
  refine (f49_c a l.length c l _ hl rfl hlen).mono ?_
  rintro e w1 ⟨rfl, hE1⟩
  by_cases h0 : valAtoms l = 0
  case neg =>
    have hb : (valAtoms l != 0) = true := by simp [h0]
    have HR := Lib.hid (units_bad (l := l) (w := w) (w' := w1) (show unitsErr l = valAtoms l by unfold unitsErr; rw [if_pos h0]) h0 hE1)
    clear h0
    go_wp2_with fail
    go_ret2
    exact HR.out
  rw [h0]
  have H0 := Lib.hid h0
  have hF := Lib.hid (fine_atoms h0)
  have ht := fine_total hF.out
  clear h0
  go_wp2_with fail
  refine (f65_c a l.length c l _ (hl.ext hE1) rfl hF.out).mono ?_
  rintro e w2 ⟨rfl, hX2⟩
  have hE2 := hE1.trans' hX2
  by_cases h1 : 1000 < totalL l
  · have HR := Lib.hid (units_bad (l := l) (w := w) (w' := w2) (show unitsErr l = 3 by unfold unitsErr; rw [if_neg (by simpa using H0.out), if_pos h1]) (by omega) hE2)
    generalize totalL l = T at *
    go_wp2_with fail
    go_ret2
    exact HR.out
  · have HZ : Hid (unitsErr l = 0) := Lib.hid (by unfold unitsErr; rw [if_neg (by simpa using H0.out), if_neg h1])
    have HV : Hid (unitsV l = unitsL l) := Lib.hid (by unfold unitsV; rw [if_pos HZ.out])
    generalize totalL l = T at *
    go_wp2_with fail
    refine (f61_c a l.length c l _ (hl.ext hE2) rfl hF.out).mono ?_
    rintro e w3 ⟨a3, c3, rfl, hI, hX3⟩
    go_wp2_with fail
    go_ret2
    exact ⟨a3, c3, by rw [HV.out, HZ.out]; rfl, by rw [HV.out]; exact hI, hE2.trans' hX3⟩

set_option maxHeartbeats 2000000 in
theorem f46_c (a : Option Addr) (n c : Nat) (l : List Atom) (w : World) (hl : Atoms w a l) (hn : l.length = n) (hlen : n ≤ 140737488355328) :
    Calls Try.prog 46 #[.slice a n c] w (RetInts (unitsV l) (unitsErr l) w) := by
  subst hn
  go_enter Try.func46, Try.ntmps46
  go_wp2_with fail
  refine (f50_c a l.length c l _ hl rfl hlen).mono ?_
  rintro e w1 ⟨rfl, hE1⟩
  by_cases h0 : valAtoms l = 0
  case neg =>
    have hb : (valAtoms l != 0) = true := by simp [h0]
    have HR := Lib.hid (units_bad (l := l) (w := w) (w' := w1) (show unitsErr l = valAtoms l by unfold unitsErr; rw [if_pos h0]) h0 hE1)
    clear h0
    go_wp2_with fail
    go_ret2
    exact HR.out
  rw [h0]
  have H0 := Lib.hid h0
  have hF := Lib.hid (fine_atoms h0)
  have ht := fine_total hF.out
  clear h0
  go_wp2_with fail
  refine (f69_c a l.length c l _ (hl.ext hE1) rfl hF.out).mono ?_
  rintro e w2 ⟨rfl, hX2⟩
  have hE2 := hE1.trans' hX2
  by_cases h1 : 1000 < totalL l
  · have HR := Lib.hid (units_bad (l := l) (w := w) (w' := w2) (show unitsErr l = 3 by unfold unitsErr; rw [if_neg (by simpa using H0.out), if_pos h1]) (by omega) hE2)
    generalize totalL l = T at *
    go_wp2_with fail
    go_ret2
    exact HR.out
  · have HZ : Hid (unitsErr l = 0) := Lib.hid (by unfold unitsErr; rw [if_neg (by simpa using H0.out), if_neg h1])
    have HV : Hid (unitsV l = unitsL l) := Lib.hid (by unfold unitsV; rw [if_pos HZ.out])
    generalize totalL l = T at *
    go_wp2_with fail
    refine (f63_c a l.length c l _ (hl.ext hE2) rfl hF.out).mono ?_
    rintro e w3 ⟨a3, c3, rfl, hI, hX3⟩
    go_wp2_with fail
    go_ret2
    exact ⟨a3, c3, by rw [HV.out, HZ.out]; rfl, by rw [HV.out]; exact hI, hE2.trans' hX3⟩

end Go.Proofs.Ytgnjaapjaglleaa