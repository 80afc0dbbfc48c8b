/- MeanBounds: the law's walk. -/
import Derived.Test.YtgnjaapjaglleaaT20
import Derived.Test.YtgnjaapjaglleaaT12
namespace Go.Proofs.Ytgnjaapjaglleaa
open Go.RowKit
attribute [local go_sem] GW.cell

theorem f21_eq (a b : Option Addr) (n m c d : Nat) (l : List Atom) (w : World) (hl : Atoms w a l) (hk : Atoms w b l) (hn : l.length = n) (hm : l.length = m) (hn1 : n ≤ 140737488355328) :
    Calls Try.prog 21 #[.slice a n c, .slice b m d] w fun e w' => e = .returned (.bool true) ∧ Ext w w' :=
  (f21_c a b n m c d l l w hl hk hn hm hn1 (by omega)).mono fun e w' h => by simpa using h
theorem bound_said {l : List (List Atom)} (h : loadsErr l = 0) {i : Nat} (hi : i < l.length) :
    (pairErr (rankL l 0) l[i] = 0 ∧ beforeB (rankL l 0) l[i] = true) ∧ (pairErr l[i] (rankL l (l.length - 1)) = 0 ∧ beforeB l[i] (rankL l (l.length - 1)) = true) := by
  have hok := loadsErr_ok h
  have hp := hok.pos
  have hN := unitsN_bd hok
  have hl := hok.load i hi
  obtain ⟨l1, l2⟩ := listErr_ok hl
  have hv : valAtoms l[i] = 0 := by
    have : isListB 60000 1000 l[i] = true := isListB_of (fun y hy => by have := isListB_mem l2 hy; omega) (isListB_pw l2)
    unfold valAtoms listErr; rw [if_neg (by omega), this]; rfl
  have v0 := rank_valid hok (r := 0) (by omega)
  have v1 := rank_valid hok (r := l.length - 1) (by omega)
  have ht : totalL l[i] = totalL (gl l 0) := by rw [hok.fit i hi, gl_at (by omega)]
  have hN1 := hN.1
  rw [List.getElem?_eq_getElem (by omega), Option.getD_some] at hN1
  have hu := hok.units hi
  have p1 : pairErr (rankL l 0) l[i] = 0 := by unfold pairErr; rw [v0, hv, rank_total hok, ht]; simp
  have p2 : pairErr l[i] (rankL l (l.length - 1)) = 0 := by unfold pairErr; rw [v1, hv, rank_total hok, ht]; simp
  refine ⟨⟨p1, ?_⟩, p2, ?_⟩
  · unfold beforeB
    rw [p1, rank_units, leU_of]; rfl
    intro k hk
    rw [rankU_length] at hk
    rw [gi_rank hk]
    have := sort_ends (P := placesL l k) (i := i) (by rw [placesL_length]; exact hi)
    rw [gi_places hi, gl_at hi] at this
    exact this.1
  · unfold beforeB
    rw [p2, rank_units, leU_of]; rfl
    intro k hk
    have hkN : k < unitsN l := by omega
    rw [gi_rank hkN]
    have := sort_ends (P := placesL l k) (i := i) (by rw [placesL_length]; exact hi)
    rw [gi_places hi, gl_at hi, placesL_length] at this
    exact this.2
theorem rankV_len (l : List (List Atom)) (r : Nat) (hr : 0 < l.length → r < l.length) : (rankV l r).length ≤ 40 := by
  unfold rankV
  split
  · rename_i h
    have hok := loadsErr_ok h
    exact rank_len r hok (hr hok.pos)
  · simp
set_option maxRecDepth 20000 in
set_option maxHeartbeats 8000000 in
theorem lawBou (w : World) (a : Option Addr) (n c : Nat) (l : List (List Atom)) (hl : Loads w a l) (hn : l.length = n) (hlx : n ≤ 9223372036854775807) :
    Calls Try.prog 14 #[.slice a n c] w fun e w' => e = .returned (.bool true) ∧ Ext w w' := by
  subst hn
  go_enter Try.func14, Try.ntmps14
  go_wp2_with fail
  refine (f32_c a l.length c l _ hl rfl hlx).mono ?_
  rintro e w0 ⟨rfl, hE0⟩
  rcases Bool.eq_false_or_eq_true (longB l) with h1 | h1
  · rw [h1]
    go_wp2_with fail
    refine (f18_c _).mono ?_
    rintro e w9 ⟨rfl, hE9⟩
    go_wp2_with fail
    go_ret
    exact ⟨rfl, hE0.trans' hE9⟩
  obtain ⟨q1, q2⟩ := longB_no h1
  rw [h1]
  have hlen : l.length ≤ 140737488355328 := by omega
  have Hin : Hid (∀ j, (hj : j < l.length) → l[j].length ≤ 140737488355328) := Lib.hid (fun j hj => by have := q2 j hj; omega)
  clear q2 h1
  have hm0 := rankV_len l 0 (fun h => h)
  have hm1 := rankV_len l (l.length - 1) (fun h => by omega)
  have HC51 := Lib.hid (fun W (hW : Loads W a l) => f51_c a l.length c l W hW rfl hlen Hin.out)
  have HC27 := Lib.hid (fun W (hW : Loads W a l) => f27_c a l.length c l W hW rfl hlen Hin.out)
  have HC52 := Lib.hid (fun W (hW : Loads W a l) => f52_c a l.length c l W hW rfl hlen Hin.out)
  have HC28 := Lib.hid (fun W (hW : Loads W a l) => f28_c a l.length c l W hW rfl hlen Hin.out)
  have Hs := Lib.hid (fun (h : loadsErr l = 0) i (hi : i < l.length) => bound_said h hi)
  have HV1 : Hid (loadsErr l = 0 → rankV l 0 = rankL l 0) := Lib.hid (fun h => by unfold rankV; rw [if_pos h])
  have HV2 : Hid (loadsErr l = 0 → rankV l (l.length - 1) = rankL l (l.length - 1)) := Lib.hid (fun h => by unfold rankV; rw [if_pos h])
  generalize rankV l 0 = R1 at *
  generalize rankV l (l.length - 1) = R2 at *
  generalize rankL l 0 = Q1 at *
  generalize rankL l (l.length - 1) = Q2 at *
  have hEE : (loadsErr l != loadsErr l) = false := by simp
  go_wp2_with fail
  refine (HC51.out _ (hl.ext hE0)).mono ?_
  rintro e w1 ⟨v1, rfl, hrow, hX1⟩
  obtain ⟨a1, c1, rfl, hA1⟩ := atoms_of_row hrow
  clear hrow
  have hE1 := hE0.trans' hX1
  go_wp2_with fail
  refine (HC27.out _ (hl.ext hE1)).mono ?_
  rintro e w2 ⟨v2, rfl, hrow, hX2⟩
  obtain ⟨a2, c2, rfl, hA2⟩ := atoms_of_row hrow
  clear hrow
  have hE2 := hE1.trans' hX2
  have hA1 := hA1.ext hX2
  go_wp2_with fail
  refine (HC52.out _ (hl.ext hE2)).mono ?_
  rintro e w3 ⟨v3, rfl, hrow, hX3⟩
  obtain ⟨a3, c3, rfl, hA3⟩ := atoms_of_row hrow
  clear hrow
  have hE3 := hE2.trans' hX3
  have hA1 := hA1.ext hX3
  have hA2 := hA2.ext hX3
  go_wp2_with fail
  refine (HC28.out _ (hl.ext hE3)).mono ?_
  rintro e w4 ⟨v4, rfl, hrow, hX4⟩
  obtain ⟨a4, c4, rfl, hA4⟩ := atoms_of_row hrow
  clear hrow
  have hE4 := hE3.trans' hX4
  have hA1 := hA1.ext hX4
  have hA2 := hA2.ext hX4
  have hA3 := hA3.ext hX4
  clear HC51 HC27 HC52 HC28
  go_wp2_with fail
  refine (f21_eq a1 a2 R1.length R1.length c1 c2 R1 w4 hA1 hA2 rfl rfl (by omega)).mono ?_
  rintro e w5 ⟨rfl, hX5⟩
  have hE5 := hE4.trans' hX5
  have hA1 := hA1.ext hX5
  have hA3 := hA3.ext hX5
  have hA4 := hA4.ext hX5
  go_wp2_with fail
  refine (f21_eq a3 a4 R2.length R2.length c3 c4 R2 w5 hA3 hA4 rfl rfl (by omega)).mono ?_
  rintro e w6 ⟨rfl, hX6⟩
  have hE6 := hE5.trans' hX6
  have HA1 := Lib.hid (hA1.ext hX6)
  have HA3 := Lib.hid (hA3.ext hX6)
  clear hA1 hA2 hA3 hA4
  by_cases h0 : loadsErr l = 0
  case neg =>
    have hb : (loadsErr l != 0) = true := by simp [h0]
    clear h0 HV1 HV2 Hs
    generalize loadsErr l = E at *
    go_wp2_with fail
    refine (f18_c _).mono ?_
    rintro e w99 ⟨rfl, hE99⟩
    go_wp2_with fail
    go_ret
    exact ⟨rfl, hE6.trans' hE99⟩
  have Hq1 := Lib.hid (HV1.out h0)
  have Hq2 := Lib.hid (HV2.out h0)
  have Hsd : Hid (∀ i, (hi : i < l.length) → (pairErr R1 l[i] = 0 ∧ beforeB R1 l[i] = true) ∧ (pairErr l[i] R2 = 0 ∧ beforeB l[i] R2 = true)) := Lib.hid (fun i hi => by
    have := Hs.out h0 i hi
    rw [Hq1.out, Hq2.out]
    exact this)
  rw [h0]
  clear h0 hEE HV1 HV2 Hs
  go_wp2_with fail
  go_loopw [11] (fun i wr => ∃ q : Nat, q ≤ l.length ∧ i = .int .i64 q ∧ Ext w6 wr) (fun i _ => l.length - (intOf i).toNat)
  case atStart => exact ⟨0, Nat.zero_le _, rfl, Below.refl _ _⟩
  case round =>
    obtain ⟨q, hq, rfl, hX7⟩ := hrel
    have hE7 := hE6.trans' hX7
    by_cases hlt : q < l.length
    · obtain ⟨b1, o1, a7, c7, rfl, hb1, hc1, hi1⟩ := hl.ext hE7 q hlt
      obtain ⟨⟨s1, s2⟩, s3, s4⟩ := Hsd.out q hlt
      have hiq := Hin.out q hlt
      have C1 := f19_c a1 a7 R1.length c1 l[q].length c7 R1 l[q] wr (HA1.out.ext hX7) rfl (by omega) hi1 rfl hiq
      rw [s1, s2] at C1
      have C2 := Lib.hid (fun W (hW : Ext wr W) => f19_c a7 a3 l[q].length c7 R2.length c3 l[q] R2 W (hi1.ext hW) rfl hiq (HA3.out.ext (hX7.trans' hW)) rfl (by omega))
      rw [s3, s4] at C2
      clear s1 s2 s3 s4
      go_wp2_with fail
      refine C1.mono ?_
      clear C1
      rintro e w8 ⟨rfl, hX8⟩
      have hc1 := (hX8.cell' hb1).trans hc1
      have hb1 := Nat.lt_of_lt_of_le hb1 hX8.size
      go_wp2_with fail
      refine (C2.out _ hX8).mono ?_
      rintro e w9 ⟨rfl, hX9⟩
      clear C2
      go_wp2_with fail
      go_roundw
      case rel => exact ⟨q + 1, by omega, by go_num, (hX7.trans' hX8).trans' hX9⟩
      case measure => simp [intOf]; omega
    · obtain rfl : q = l.length := by omega
      obtain ⟨wo, rfl⟩ : ∃ wo : World, wo = wr := ⟨_, rfl⟩
      go_wp2_with fail
      refine (f18_c _).mono ?_
      rintro e w99 ⟨rfl, hE99⟩
      go_wp2_with fail
      go_ret
      exact ⟨rfl, hE7.trans' hE99⟩
end Go.Proofs.Ytgnjaapjaglleaa
