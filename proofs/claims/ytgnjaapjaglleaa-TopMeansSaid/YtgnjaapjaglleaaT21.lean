/- Contracts of layer 7: IsMedian, of the program and of the reference. -/
import Derived.Test.YtgnjaapjaglleaaT20
import Derived.Test.YtgnjaapjaglleaaT11
import Derived.Test.YtgnjaapjaglleaaP16
namespace Go.Proofs.Ytgnjaapjaglleaa
open Go.RowKit
attribute [local go_sem] GW.cell

def RetMed (l : List (List Atom)) (m : List Atom) (w : World) (e : Ending) (w' : World) : Prop := e = .returned (.tuple #[.bool (medB l m), .int .i64 (medErr l m)]) ∧ Ext w w'
theorem med_bad {l : List (List Atom)} {m : List Atom} {w w' : World} {e : Int} (h : medErr l m = e) (he : e ≠ 0) (hE : Ext w w') : RetMed l m w (.returned (.tuple #[.bool false, .int .i64 e])) w' := by
  refine ⟨?_, hE⟩
  have : medB l m = false := by unfold medB; rw [h, decide_eq_false he]; rfl
  rw [this, h]
theorem med_false {l : List (List Atom)} {m : List Atom} {w w' : World} {k : Nat} (h : medErr l m = 0) (hk : k < unitsN l) (hf : medAt l m k = false) (hE : Ext w w') : RetMed l m w (.returned (.tuple #[.bool false, .int .i64 0])) w' := by
  refine ⟨?_, hE⟩
  have : medB l m = false := by
    unfold medB
    rw [h, Bool.and_eq_false_iff]
    exact .inr (List.all_eq_false.2 ⟨k, List.mem_range.2 hk, by rw [hf]; simp⟩)
  rw [this, h]
theorem med_true {l : List (List Atom)} {m : List Atom} {w w' : World} (h : medErr l m = 0) (hf : ∀ k, k < unitsN l → medAt l m k = true) (hE : Ext w w') : RetMed l m w (.returned (.tuple #[.bool true, .int .i64 0])) w' := by
  refine ⟨?_, hE⟩
  have : medB l m = true := by
    unfold medB
    rw [h, Bool.and_eq_true, List.all_eq_true]
    exact ⟨by simp, fun k hk => hf k (List.mem_range.1 hk)⟩
  rw [this, h]
theorem midU_at (ll : List (List Atom)) (k : Nat) : midU (placesL ll k) = gi (sortI (placesL ll k)) (ll.length / 2) := by unfold midU; rw [placesL_length]

set_option maxRecDepth 20000 in
set_option maxHeartbeats 8000000 in
theorem f55_c (a a2 : Option Addr) (n c n2 c2 : Nat) (l : List (List Atom)) (m : List Atom) (w : World) (hl : Loads w a l) (hn : l.length = n) (hlen : n ≤ 140737488355328) (hin : ∀ j, (hj : j < l.length) → l[j].length ≤ 140737488355328) (hm : Atoms w a2 m) (hn2 : m.length = n2) (hlen2 : n2 ≤ 140737488355328) :
    Calls Try.prog 55 #[.slice a n c, .slice a2 n2 c2] w (RetMed l m w) := by
  subst hn hn2
  go_enter Try.func55, Try.ntmps55
  go_wp2_with fail
  refine (f47_c a l.length c l _ hl rfl hlen hin).mono ?_
  rintro e w1 ⟨rfl, hE1⟩
  by_cases h0 : loadsErr l = 0
  case neg =>
    have hb : (loadsErr l != 0) = true := by simp [h0]
    have HR := Lib.hid (med_bad (m := m) (w := w) (w' := w1) (show medErr l m = loadsErr l by unfold medErr; rw [if_pos h0]) h0 hE1)
    clear h0
    go_wp2_with fail
    go_ret2
    exact HR.out
  rw [h0]
  have H1 := Lib.hid h0
  clear h0
  go_wp2_with fail
  refine (f49_c a2 m.length c2 m _ (hm.ext hE1) rfl hlen2).mono ?_
  rintro e w2 ⟨rfl, hX2⟩
  have hE2 := hE1.trans' hX2
  by_cases h0 : valAtoms m = 0
  case neg =>
    have hb : (valAtoms m != 0) = true := by simp [h0]
    have HR := Lib.hid (med_bad (m := m) (w := w) (w' := w2) (show medErr l m = valAtoms m by unfold medErr; rw [if_neg (by simpa using H1.out), if_pos h0]) h0 hE2)
    clear h0
    go_wp2_with fail
    go_ret2
    exact HR.out
  rw [h0]
  have H2 := Lib.hid h0
  clear h0
  have hok := loadsErr_ok H1.out
  have hp1 := hok.pos
  have h10 : 0 < l.length := hp1
  have h5 := hok.five
  have F0 := Lib.hid (hok.fine h10)
  have FM := Lib.hid (fine_atoms H2.out)
  have hg0 := gl_at h10
  have hN := unitsN_bd hok
  have hUM := units_len (fine_atoms H2.out)
  have Hpl := Lib.hid (fun W (h : Loads W a l) (k : Nat) (hk : (k : Int) < totalL (l[0]?.getD [])) => f66_c a l.length c l k W h rfl hok hk)
  have e0 : l[0]?.getD [] = l[0] := by rw [List.getElem?_eq_getElem (by omega), Option.getD_some]
  rw [e0] at hN
  rw [e0] at Hpl
  have hN1 : (unitsN l : Int) ≤ totalL l[0] ∧ totalL l[0] ≤ (unitsN l : Int) ∧ unitsN l ≤ 180 := by omega
  obtain ⟨b0, o0, a0, c0, ea, hb0, hc0, hi0'⟩ := hl.ext hE2 0 h10
  subst ea
  simp only [Nat.add_zero] at hc0
  by_cases ht : totalL m = totalL l[0]
  case neg =>
    have hbt : (totalL m != totalL l[0]) = true := by simp [ht]
    have HR := Lib.hid (fun w' (hE : Ext w w') => med_bad (m := m) (w := w) (w' := w') (show medErr l m = 5 by unfold medErr; rw [if_neg (by simpa using H1.out), if_neg (by simpa using H2.out), if_pos (by rw [hg0]; exact ht)]) (by omega) hE)
    clear ht hok hg0 hN e0 hUM
    go_wp2_with fail
    refine wp_region_ext (by kernel_rfl) (by kernel_rfl) ?_
    repeat (go_big_quiet_step (fail))
    go_big_quiet_step ((go_at_call 65; refine quiet_ext (f65_c a2 _ c2 m _ ?_ rfl FM.out); exact (hm.ext hE2).ext (GW.ext _)))
    repeat (go_big_quiet_step (fail))
    go_big_quiet_step ((go_at_call 65; refine quiet_ext (f65_c a0 _ c0 l[0] _ ?_ rfl F0.out); exact hi0'.ext (GW.ext _)))
    repeat (go_big_quiet_step (fail))
    refine wpQuiet_nil ?_
    intro wT hET
    go_wp2_with fail
    go_ret2
    exact HR.out _ (hE2.trans' hET)
  have hbt : (totalL m != totalL l[0]) = false := by simp [ht]
  have HT : Hid (medErr l m = 0) := Lib.hid (by unfold medErr; rw [if_neg (by simpa using H1.out), if_neg (by simpa using H2.out), if_neg (by rw [hg0]; simpa using ht)])
  have hUN : (unitsL m).length ≤ unitsN l ∧ unitsN l ≤ (unitsL m).length := by omega
  have Hf := Lib.hid (fun w' k (hk : k < unitsN l) hf (hE : Ext w w') => med_false (w' := w') HT.out hk hf hE)
  have Htr := Lib.hid (fun w' hf (hE : Ext w w') => med_true (w' := w') HT.out hf hE)
  have Hu := Lib.hid (fun W (h : Atoms W a2 m) => f61_c a2 m.length c2 m W h rfl FM.out)
  have Hat : Hid (∀ k, medAt l m k = (decide (gi (sortI (placesL l k)) ((l.length - 1) / 2) ≤ gi (unitsL m) k) && decide (gi (unitsL m) k ≤ gi (sortI (placesL l k)) (l.length / 2)))) := Lib.hid (fun k => by unfold medAt; rw [midL_at, midU_at])
  clear ht hok hg0 hN e0 hUM
  go_wp2_with fail
  refine wp_region_ext (by kernel_rfl) (by kernel_rfl) ?_
  repeat (go_big_quiet_step (fail))
  go_big_quiet_step ((go_at_call 65; refine quiet_ext (f65_c a2 _ c2 m _ ?_ rfl FM.out); exact (hm.ext hE2).ext (GW.ext _)))
  repeat (go_big_quiet_step (fail))
  go_big_quiet_step ((go_at_call 65; refine quiet_ext (f65_c a0 _ c0 l[0] _ ?_ rfl F0.out); exact hi0'.ext (GW.ext _)))
  repeat (go_big_quiet_step (fail))
  refine wpQuiet_nil ?_
  intro wT hET
  have hE5 := hE2.trans' hET
  clear hc0 hi0' hb0
  go_wp2_with fail
  refine (Hu.out _ (hm.ext hE5)).mono ?_
  rintro e w4 ⟨a4, c4, rfl, hI4, hX4⟩
  have hE6 := hE5.trans' hX4
  clear Hu
  generalize unitsL m = UM at *
  generalize unitsN l = N at *
  obtain ⟨q1, hq1⟩ : ∃ q : Nat, (l.length - 1) / 2 = q := ⟨_, rfl⟩
  obtain ⟨q2, hq2⟩ : ∃ q : Nat, l.length / 2 = q := ⟨_, rfl⟩
  have hi1 : ((l.length : Int) - 1) / 2 = ((q1 : Nat) : Int) := by omega
  have hi2 : (l.length : Int) / 2 = ((q2 : Nat) : Int) := by omega
  have ht1 : Int.tdiv ((l.length : Int) - 1) 2 = ((q1 : Nat) : Int) := by rw [Int.tdiv_eq_ediv_of_nonneg (by omega)]; exact hi1
  have ht2 : Int.tdiv (l.length : Int) 2 = ((q2 : Nat) : Int) := by rw [Int.tdiv_eq_ediv_of_nonneg (by omega)]; exact hi2
  have hql1 : q1 < l.length := by omega
  have hql2 : q2 < l.length := by omega
  rw [hq1, hq2] at Hat
  clear hq1 hq2
  have Hi1 := Lib.hid hi1
  have Hi2 := Lib.hid hi2
  have Ht1 := Lib.hid ht1
  have Ht2 := Lib.hid ht2
  clear hi1 hi2 ht1 ht2
  generalize totalL l[0] = T at *
  generalize totalL m = TM at *
  go_wp2_with fail
  go_loopw [34] (fun i wr => ∃ k : Nat, k ≤ N ∧ i = .int .i64 k ∧ Ext w4 wr ∧ Hid (∀ j, j < k → medAt l m j = true)) (fun i _ => N - (intOf i).toNat)
  case atStart => exact ⟨0, Nat.zero_le _, rfl, Below.refl _ _, Lib.hid (fun j hj => absurd hj (by omega))⟩
  case round =>
    obtain ⟨k, hk, rfl, hX7, HM⟩ := hrel
    have hE7 := hE6.trans' hX7
    obtain ⟨wo, rfl⟩ : ∃ wo : World, wo = wr := ⟨_, rfl⟩
    by_cases hlt : k < N
    · have hltT : (k : Int) < T := by omega
      have hkU : k < UM.length := by omega
      obtain ⟨b4, o4, ea4, hb4, hc4⟩ := hI4.ext hX7 k hkU
      rw [← gi_at] at hc4
      subst ea4
      have hPl : (placesL l k).length ≤ 1000000 := by rw [placesL_length]; omega
      have HSl : Hid ((sortI (placesL l k)).length = l.length) := Lib.hid (by rw [sortI_length, placesL_length])
      have Ha := Lib.hid (Hat.out k)
      go_wp2_with fail
      refine (Hpl.out _ (hl.ext hE7) k hltT).mono ?_
      rintro e w8 ⟨a8, c8, rfl, hI8, hX8⟩
      have hE8 := hE7.trans' hX8
      go_wp2_with fail
      refine (f85_c a8 (placesL l k).length c8 w8).mono ?_
      rintro e w9 ⟨rfl, hw9⟩
      have hX9 : Ext w8 w9 := by rw [← hw9]; exact ext_alloc _ _
      have b9 : Boxed w9 w8.heap.size 30 (.slice a8 (placesL l k).length c8) := by rw [← hw9]; exact Boxed.new _ _ _
      clear hw9
      have hE9 := hE8.trans' hX9
      go_wp2_with fail
      refine (f84_c a8 c8 (placesL l k) hPl w8.heap.size w9 b9 (hI8.ext hX9)).mono ?_
      rintro e w10 ⟨a10, c10, rfl, hI10, hX10⟩
      have hE10 := hE9.trans' hX10
      have hY10 := (hX8.trans' hX9).trans' hX10
      have hc4 := (hY10.cell' hb4).trans hc4
      have hb4 := Nat.lt_of_lt_of_le hb4 hY10.size
      obtain ⟨b5, o5, ea5, hb5, hc5⟩ := hI10 q1 (by rw [HSl.out]; exact hql1)
      subst ea5
      obtain ⟨b6, o6, ea6, hb6, hc6⟩ := hI10 q2 (by rw [HSl.out]; exact hql2)
      cases ea6
      rw [← gi_at] at hc5 hc6
      have hs1 : q1 < (sortI (placesL l k)).length := by rw [HSl.out]; exact hql1
      have hs2 : q2 < (sortI (placesL l k)).length := by rw [HSl.out]; exact hql2
      have hS5 : (sortI (placesL l k)).length ≤ 5 := by rw [HSl.out]; exact h5
      generalize hP : sortI (placesL l k) = SP at *
      clear hP hI10 hI8
      generalize gi SP q1 = lo at *
      generalize gi SP q2 = hi at *
      generalize gi UM k = t at *
      have hi1 := Hi1.out
      have hi2 := Hi2.out
      have ht1 := Ht1.out
      have ht2 := Ht2.out
      by_cases h1 : t < lo
      · have HF := Lib.hid (Hf.out w10 k hlt (by rw [Ha.out, decide_eq_false (show ¬ lo ≤ t by omega)]; rfl) hE10)
        go_wp2_with fail
        go_ret2
        exact HF.out
      · by_cases h2 : hi < t
        · have HF := Lib.hid (Hf.out w10 k hlt (by rw [Ha.out, decide_eq_false (show ¬ t ≤ hi by omega)]; simp) hE10)
          go_wp2_with fail
          go_ret2
          exact HF.out
        · have HM2 : Hid (∀ j, j < k + 1 → medAt l m j = true) := Lib.hid (fun j hj => by
            by_cases e : j = k
            · subst e; rw [Ha.out, decide_eq_true (show lo ≤ t by omega), decide_eq_true (show t ≤ hi by omega)]; rfl
            · exact HM.out j (by omega))
          go_wp2_with fail
          go_roundw
          case rel => exact ⟨k + 1, by omega, by go_num, hX7.trans' hY10, HM2⟩
          case measure => simp [intOf]; omega
    · obtain rfl : k = N := by omega
      have HR := Lib.hid (Htr.out wo HM.out hE7)
      clear Htr Hf
      go_wp2_with fail
      go_ret2
      exact HR.out

set_option maxRecDepth 20000 in
set_option maxHeartbeats 8000000 in
theorem f56_c (a a2 : Option Addr) (n c n2 c2 : Nat) (l : List (List Atom)) (m : List Atom) (w : World) (hl : Loads w a l) (hn : l.length = n) (hlen : n ≤ 140737488355328) (hin : ∀ j, (hj : j < l.length) → l[j].length ≤ 140737488355328) (hm : Atoms w a2 m) (hn2 : m.length = n2) (hlen2 : n2 ≤ 140737488355328) :
    Calls Try.prog 56 #[.slice a n c, .slice a2 n2 c2] w (RetMed l m w) := by
  subst hn hn2
  go_enter Try.func56, Try.ntmps56
  go_wp2_with fail
  refine (f48_c a l.length c l _ hl rfl hlen hin).mono ?_
  rintro e w1 ⟨rfl, hE1⟩
  by_cases h0 : loadsErr l = 0
  case neg =>
    have hb : (loadsErr l != 0) = true := by simp [h0]
    have HR := Lib.hid (med_bad (m := m) (w := w) (w' := w1) (show medErr l m = loadsErr l by unfold medErr; rw [if_pos h0]) h0 hE1)
    clear h0
    go_wp2_with fail
    go_ret2
    exact HR.out
  rw [h0]
  have H1 := Lib.hid h0
  clear h0
  go_wp2_with fail
  refine (f50_c a2 m.length c2 m _ (hm.ext hE1) rfl hlen2).mono ?_
  rintro e w2 ⟨rfl, hX2⟩
  have hE2 := hE1.trans' hX2
  by_cases h0 : valAtoms m = 0
  case neg =>
    have hb : (valAtoms m != 0) = true := by simp [h0]
    have HR := Lib.hid (med_bad (m := m) (w := w) (w' := w2) (show medErr l m = valAtoms m by unfold medErr; rw [if_neg (by simpa using H1.out), if_pos h0]) h0 hE2)
    clear h0
    go_wp2_with fail
    go_ret2
    exact HR.out
  rw [h0]
  have H2 := Lib.hid h0
  clear h0
  have hok := loadsErr_ok H1.out
  have hp1 := hok.pos
  have h10 : 0 < l.length := hp1
  have h5 := hok.five
  have F0 := Lib.hid (hok.fine h10)
  have FM := Lib.hid (fine_atoms H2.out)
  have hg0 := gl_at h10
  have hN := unitsN_bd hok
  have hUM := units_len (fine_atoms H2.out)
  have Hpl := Lib.hid (fun W (h : Loads W a l) (k : Nat) (hk : (k : Int) < totalL (l[0]?.getD [])) => f70_c a l.length c l k W h rfl hok hk)
  have e0 : l[0]?.getD [] = l[0] := by rw [List.getElem?_eq_getElem (by omega), Option.getD_some]
  rw [e0] at hN
  rw [e0] at Hpl
  have hN1 : (unitsN l : Int) ≤ totalL l[0] ∧ totalL l[0] ≤ (unitsN l : Int) ∧ unitsN l ≤ 180 := by omega
  obtain ⟨b0, o0, a0, c0, ea, hb0, hc0, hi0'⟩ := hl.ext hE2 0 h10
  subst ea
  simp only [Nat.add_zero] at hc0
  by_cases ht : totalL m = totalL l[0]
  case neg =>
    have hbt : (totalL m != totalL l[0]) = true := by simp [ht]
    have HR := Lib.hid (fun w' (hE : Ext w w') => med_bad (m := m) (w := w) (w' := w') (show medErr l m = 5 by unfold medErr; rw [if_neg (by simpa using H1.out), if_neg (by simpa using H2.out), if_pos (by rw [hg0]; exact ht)]) (by omega) hE)
    clear ht hok hg0 hN e0 hUM
    go_wp2_with fail
    refine wp_region_ext (by kernel_rfl) (by kernel_rfl) ?_
    repeat (go_big_quiet_step (fail))
    go_big_quiet_step ((go_at_call 69; refine quiet_ext (f69_c a2 _ c2 m _ ?_ rfl FM.out); exact (hm.ext hE2).ext (GW.ext _)))
    repeat (go_big_quiet_step (fail))
    go_big_quiet_step ((go_at_call 69; refine quiet_ext (f69_c a0 _ c0 l[0] _ ?_ rfl F0.out); exact hi0'.ext (GW.ext _)))
    repeat (go_big_quiet_step (fail))
    refine wpQuiet_nil ?_
    intro wT hET
    go_wp2_with fail
    go_ret2
    exact HR.out _ (hE2.trans' hET)
  have hbt : (totalL m != totalL l[0]) = false := by simp [ht]
  have HT : Hid (medErr l m = 0) := Lib.hid (by unfold medErr; rw [if_neg (by simpa using H1.out), if_neg (by simpa using H2.out), if_neg (by rw [hg0]; simpa using ht)])
  have hUN : (unitsL m).length ≤ unitsN l ∧ unitsN l ≤ (unitsL m).length := by omega
  have Hf := Lib.hid (fun w' k (hk : k < unitsN l) hf (hE : Ext w w') => med_false (w' := w') HT.out hk hf hE)
  have Htr := Lib.hid (fun w' hf (hE : Ext w w') => med_true (w' := w') HT.out hf hE)
  have Hu := Lib.hid (fun W (h : Atoms W a2 m) => f63_c a2 m.length c2 m W h rfl FM.out)
  have Hat : Hid (∀ k, medAt l m k = (decide (gi (sortI (placesL l k)) ((l.length - 1) / 2) ≤ gi (unitsL m) k) && decide (gi (unitsL m) k ≤ gi (sortI (placesL l k)) (l.length / 2)))) := Lib.hid (fun k => by unfold medAt; rw [midL_at, midU_at])
  clear ht hok hg0 hN e0 hUM
  go_wp2_with fail
  refine wp_region_ext (by kernel_rfl) (by kernel_rfl) ?_
  repeat (go_big_quiet_step (fail))
  go_big_quiet_step ((go_at_call 69; refine quiet_ext (f69_c a2 _ c2 m _ ?_ rfl FM.out); exact (hm.ext hE2).ext (GW.ext _)))
  repeat (go_big_quiet_step (fail))
  go_big_quiet_step ((go_at_call 69; refine quiet_ext (f69_c a0 _ c0 l[0] _ ?_ rfl F0.out); exact hi0'.ext (GW.ext _)))
  repeat (go_big_quiet_step (fail))
  refine wpQuiet_nil ?_
  intro wT hET
  have hE5 := hE2.trans' hET
  clear hc0 hi0' hb0
  go_wp2_with fail
  refine (Hu.out _ (hm.ext hE5)).mono ?_
  rintro e w4 ⟨a4, c4, rfl, hI4, hX4⟩
  have hE6 := hE5.trans' hX4
  clear Hu
  generalize unitsL m = UM at *
  generalize unitsN l = N at *
  obtain ⟨q1, hq1⟩ : ∃ q : Nat, (l.length - 1) / 2 = q := ⟨_, rfl⟩
  obtain ⟨q2, hq2⟩ : ∃ q : Nat, l.length / 2 = q := ⟨_, rfl⟩
  have hi1 : ((l.length : Int) - 1) / 2 = ((q1 : Nat) : Int) := by omega
  have hi2 : (l.length : Int) / 2 = ((q2 : Nat) : Int) := by omega
  have ht1 : Int.tdiv ((l.length : Int) - 1) 2 = ((q1 : Nat) : Int) := by rw [Int.tdiv_eq_ediv_of_nonneg (by omega)]; exact hi1
  have ht2 : Int.tdiv (l.length : Int) 2 = ((q2 : Nat) : Int) := by rw [Int.tdiv_eq_ediv_of_nonneg (by omega)]; exact hi2
  have hql1 : q1 < l.length := by omega
  have hql2 : q2 < l.length := by omega
  rw [hq1, hq2] at Hat
  clear hq1 hq2
  have Hi1 := Lib.hid hi1
  have Hi2 := Lib.hid hi2
  have Ht1 := Lib.hid ht1
  have Ht2 := Lib.hid ht2
  clear hi1 hi2 ht1 ht2
  generalize totalL l[0] = T at *
  generalize totalL m = TM at *
  go_wp2_with fail
  go_loopw [9] (fun i wr => ∃ k : Nat, k ≤ N ∧ i = .int .i64 k ∧ Ext w4 wr ∧ Hid (∀ j, j < k → medAt l m j = true)) (fun i _ => N - (intOf i).toNat)
  case atStart => exact ⟨0, Nat.zero_le _, rfl, Below.refl _ _, Lib.hid (fun j hj => absurd hj (by omega))⟩
  case round =>
    obtain ⟨k, hk, rfl, hX7, HM⟩ := hrel
    have hE7 := hE6.trans' hX7
    obtain ⟨wo, rfl⟩ : ∃ wo : World, wo = wr := ⟨_, rfl⟩
    by_cases hlt : k < N
    · have hltT : (k : Int) < T := by omega
      have hkU : k < UM.length := by omega
      obtain ⟨b4, o4, ea4, hb4, hc4⟩ := hI4.ext hX7 k hkU
      rw [← gi_at] at hc4
      subst ea4
      have hPl : (placesL l k).length ≤ 1000000 := by rw [placesL_length]; omega
      have HSl : Hid ((sortI (placesL l k)).length = l.length) := Lib.hid (by rw [sortI_length, placesL_length])
      have Ha := Lib.hid (Hat.out k)
      go_wp2_with fail
      refine (Hpl.out _ (hl.ext hE7) k hltT).mono ?_
      rintro e w8 ⟨a8, c8, rfl, hI8, hX8⟩
      have hE8 := hE7.trans' hX8
      go_wp2_with fail
      refine (f86_i a8 (placesL l k).length c8 (placesL l k) _ hI8 rfl hPl).mono ?_
      rintro e w10 ⟨a10, c10, rfl, hI10, hX10⟩
      have hE10 := hE8.trans' hX10
      have hY10 := hX8.trans' hX10
      have hc4 := (hY10.cell' hb4).trans hc4
      have hb4 := Nat.lt_of_lt_of_le hb4 hY10.size
      obtain ⟨b5, o5, ea5, hb5, hc5⟩ := hI10 q1 (by rw [HSl.out]; exact hql1)
      subst ea5
      obtain ⟨b6, o6, ea6, hb6, hc6⟩ := hI10 q2 (by rw [HSl.out]; exact hql2)
      cases ea6
      rw [← gi_at] at hc5 hc6
      have hs1 : q1 < (sortI (placesL l k)).length := by rw [HSl.out]; exact hql1
      have hs2 : q2 < (sortI (placesL l k)).length := by rw [HSl.out]; exact hql2
      have hS5 : (sortI (placesL l k)).length ≤ 5 := by rw [HSl.out]; exact h5
      generalize hP : sortI (placesL l k) = SP at *
      clear hP hI10 hI8
      generalize gi SP q1 = lo at *
      generalize gi SP q2 = hi at *
      generalize gi UM k = t at *
      have hi1 := Hi1.out
      have hi2 := Hi2.out
      have ht1 := Ht1.out
      have ht2 := Ht2.out
      have hj1 : Int.tdiv ((SP.length : Int) - 1) 2 = ((q1 : Nat) : Int) := by rw [HSl.out]; exact ht1
      have hj2 : Int.tdiv (SP.length : Int) 2 = ((q2 : Nat) : Int) := by rw [HSl.out]; exact ht2
      have hz1 : (0 : Int) ≤ (q1 : Int) ∧ (q1 : Int) < (SP.length : Int) ∧ (0 : Int) ≤ (q2 : Int) ∧ (q2 : Int) < (SP.length : Int) := by omega
      have hz2 : (0 : Int) ≤ (k : Int) ∧ (k : Int) < (UM.length : Int) := by omega
      have hwz := IntWalk.i64_in ((SP.length : Int) - 1) (by omega)
      clear hi1 hi2 ht1 ht2
      by_cases h1 : t < lo
      · have HF := Lib.hid (fun w' (hE : Ext w w') => Hf.out w' k hlt (by rw [Ha.out, decide_eq_false (show ¬ lo ≤ t by omega)]; rfl) hE)
        have hd : decide (t < lo) = true := decide_eq_true h1
        go_wp2_with fail
        refine wp_region_ext (by kernel_rfl) (by kernel_rfl) ?_
        repeat (go_big_quiet_step (fail))
        refine wpQuiet_nil ?_
        intro w11 hX11
        go_wp2_with fail
        go_ret2
        exact HF.out _ (hE10.trans' hX11)
      · have hd : decide (t < lo) = false := decide_eq_false h1
        by_cases h2 : hi < t
        · have HF := Lib.hid (fun w' (hE : Ext w w') => Hf.out w' k hlt (by rw [Ha.out, decide_eq_false (show ¬ t ≤ hi by omega)]; simp) hE)
          have hd2 : decide (hi < t) = true := decide_eq_true h2
          go_wp2_with fail
          refine wp_region_ext (by kernel_rfl) (by kernel_rfl) ?_
          repeat (go_big_quiet_step (fail))
          refine wpQuiet_nil ?_
          intro w11 hX11
          go_wp2_with fail
          go_ret2
          exact HF.out _ (hE10.trans' hX11)
        · have HM2 : Hid (∀ j, j < k + 1 → medAt l m j = true) := Lib.hid (fun j hj => by
            by_cases e : j = k
            · subst e; rw [Ha.out, decide_eq_true (show lo ≤ t by omega), decide_eq_true (show t ≤ hi by omega)]; rfl
            · exact HM.out j (by omega))
          have hd2 : decide (hi < t) = false := decide_eq_false h2
          go_wp2_with fail
          refine wp_region_ext (by kernel_rfl) (by kernel_rfl) ?_
          repeat (go_big_quiet_step (fail))
          refine wpQuiet_nil ?_
          intro w11 hX11
          go_wp2_with fail
          go_roundw
          case rel => exact ⟨k + 1, by omega, by go_num, (hX7.trans' hY10).trans' hX11, HM2⟩
          case measure => simp [intOf]; omega
    · obtain rfl : k = N := by omega
      have HR := Lib.hid (Htr.out wo HM.out hE7)
      clear Htr Hf
      go_wp2_with fail
      go_ret2
      exact HR.out

end Go.Proofs.Ytgnjaapjaglleaa