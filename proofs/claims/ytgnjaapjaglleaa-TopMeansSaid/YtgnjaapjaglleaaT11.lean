/- Contracts of layer 7: Nearest, Sum. -/
import Derived.Test.YtgnjaapjaglleaaT10
import Derived.Test.YtgnjaapjaglleaaP6
namespace Go.Proofs.Ytgnjaapjaglleaa
open Go.RowKit
attribute [local go_sem] GW.cell

set_option maxRecDepth 20000 in
set_option maxHeartbeats 8000000 in
theorem f33_c (a a2 : Option Addr) (n c n2 c2 : Nat) (l : List (List Atom)) (m : List Atom) (k : Int) (w : World) (hl : Loads w a l) (hn : l.length = n) (hlen : n ≤ 140737488355328) (hin : ∀ j, (hj : j < l.length) → l[j].length ≤ 140737488355328) (hm : Atoms w a2 m) (hn2 : m.length = n2) (hlen2 : n2 ≤ 140737488355328) :
    Calls Try.prog 33 #[.slice a n c, .slice a2 n2 c2, .int .i64 k] w fun e w' => e = .returned (.tuple #[.int .i64 (nearV l m k), .int .i64 (nearErr l m k)]) ∧ Ext w w' := by
  subst hn hn2
  go_enter Try.func33, Try.ntmps33
  go_wp2_with fail
  refine (f47_c a l.length c l _ hl rfl hlen hin).mono ?_
  rintro e w1 ⟨rfl, hE1⟩
  by_cases h0 : loadsErr l = 0
  · rw [h0]
    have H1 := Lib.hid h0
    clear h0
    go_wp2_with fail
    refine (f49_c a2 m.length c2 m _ (hm.ext hE1) rfl hlen2).mono ?_
    rintro e w2 ⟨rfl, hE2⟩
    have hE2 := hE1.trans' hE2
    by_cases h0 : valAtoms m = 0
    · rw [h0]
      have H2 := Lib.hid h0
      clear h0
      have hok := loadsErr_ok H1.out
      have hp1 := hok.pos
      have h10 : 0 < l.length := hp1
      have h5 := hok.five
      have F0 := Lib.hid (hok.fine h10)
      have FM := Lib.hid (fine_atoms H2.out)
      have hg0 := gl_at h10
      obtain ⟨b0, o0, a0, c0, rfl, hb0, hc0, hi0'⟩ := hl.ext hE2 0 h10
      simp only [Nat.add_zero] at hc0
      by_cases ht : totalL m = totalL l[0]
      · have hbt : (totalL m != totalL l[0]) = false := by simp [ht]
        have HT : Hid (totalL m = totalL (gl l 0)) := Lib.hid (by rw [hg0]; exact ht)
        have Hp := Lib.hid (fun j (hj : j < l.length) => pair_load hok H2.out HT.out hj)
        clear ht hok hg0
        go_wp2_with fail
        refine wp_region_ext (by kernel_rfl) (by kernel_rfl) ?_
        repeat (go_big_quiet_step (fail))
        go_big_quiet_step ((go_at_call 65; refine quiet_ext (f65_c a2 _ c2 m _ ?_ rfl FM.out); exact (hm.ext hE2).ext (GW.ext _)))
        repeat (go_big_quiet_step (fail))
        go_big_quiet_step ((go_at_call 65; refine quiet_ext (f65_c a0 _ c0 l[0] _ ?_ rfl F0.out); exact hi0'.ext (GW.ext _)))
        repeat (go_big_quiet_step (fail))
        refine wpQuiet_nil ?_
        intro wT hET
        have hE5 := hE2.trans' hET
        go_wp2_with fail
        refine (f74_c k _).mono ?_
        rintro e w6 ⟨rfl, rfl⟩
        rcases Bool.eq_false_or_eq_true (kindB k) with hk | hk
        · rw [hk]
          have HK := Lib.hid hk
          clear hk
          have e1 : nearErr l m k = 0 := by unfold nearErr; simp [H1.out, H2.out, HT.out, HK.out]
          have E1 := Lib.hid e1
          clear e1
          have Hap := Lib.hid (fun W j (hj : j < l.length) a' c' (h : Atoms W a' l[j]) (h' : Atoms W a2 m) => f75_c a' a2 l[j].length c' m.length c2 l[j] m k W h rfl h' rfl (Hp.out j hj) (kind_or HK.out))
          clear hc0 hi0' hb0
          go_wp2_with fail
          go_loopw [10, 35] (fun b i wr => ∃ q : Nat, 0 ≤ q ∧ q ≤ l.length ∧ i = .int .i64 q ∧ b = .int .i64 (nearTo l m k q : Nat) ∧ Ext wT wr) (fun _ i _ => l.length - (intOf i).toNat)
          case atStart => exact ⟨0, Nat.le_refl _, Nat.zero_le _, rfl, rfl, Below.refl _ _⟩
          case round =>
            obtain ⟨q, hq0, hq, rfl, rfl, hE7⟩ := hrel
            by_cases hlt : q < l.length
            · have hnt : nearTo l m k q < l.length := by
                rcases Nat.eq_zero_or_pos q with h | h
                · subst h; simp [nearTo]; omega
                · have := nearTo_lt l m k q h; omega
              have Hs : Hid (nearTo l m k (q + 1) = if apartL (gl l q) m k < apartL (gl l (nearTo l m k q)) m k then q else nearTo l m k q) := Lib.hid rfl
              rw [gl_at hlt, gl_at hnt] at Hs
              generalize nearTo l m k q = r at *
              obtain ⟨b1, o1, a1, c1, he1, hb1, hc1, hi1⟩ := hl.ext (hE5.trans' hE7) q hlt
              simp only [Option.some.injEq, Addr.mk.injEq] at he1
              obtain ⟨rfl, rfl, -⟩ := he1
              obtain ⟨b2, o2, a4, c4, he, hb2, hc2, hi2⟩ := hl.ext (hE5.trans' hE7) r hnt
              simp only [Option.some.injEq, Addr.mk.injEq] at he
              obtain ⟨rfl, rfl, -⟩ := he
              have hm7 := Lib.hid (hm.ext (hE5.trans' hE7))
              have C1 := Lib.hid (fun W => Hap.out W q hlt a1 c1)
              have C2 := Lib.hid (fun W => Hap.out W r hnt a4 c4)
              generalize apartL l[q] m k = A at *
              generalize apartL l[r] m k = B at *
              rcases Bool.eq_false_or_eq_true (decide (A < B)) with hd | hd
              · have hs := Hs.out
                rw [if_pos (by simpa using hd)] at hs
                have Hs2 := Lib.hid hs
                clear hs Hs
                go_wp2_with fail
                refine wp_region_ext (by kernel_rfl) (by kernel_rfl) ?_
                repeat (go_big_quiet_step (fail))
                go_big_quiet_step ((go_at_call 75; refine quiet_ext (C1.out _ ?_ ?_); exact hi1.ext (GW.ext _); exact hm7.out.ext (GW.ext _)))
                repeat (go_big_quiet_step (fail))
                go_big_quiet_step ((go_at_call 75; refine quiet_ext (C2.out _ ?_ ?_); exact hi2.ext (GW.ext _); exact hm7.out.ext (GW.ext _)))
                repeat (go_big_quiet_step (fail))
                refine wpQuiet_nil ?_
                intro w8 hE8
                go_wp2_with fail
                go_roundw
                case rel => exact ⟨q + 1, by omega, by omega, by go_num, by rw [Hs2.out], hE7.trans' hE8⟩
                case measure => simp [intOf]; omega
              · have hs := Hs.out
                rw [if_neg (by simpa using hd)] at hs
                have Hs2 := Lib.hid hs
                clear hs Hs
                go_wp2_with fail
                refine wp_region_ext (by kernel_rfl) (by kernel_rfl) ?_
                repeat (go_big_quiet_step (fail))
                go_big_quiet_step ((go_at_call 75; refine quiet_ext (C1.out _ ?_ ?_); exact hi1.ext (GW.ext _); exact hm7.out.ext (GW.ext _)))
                repeat (go_big_quiet_step (fail))
                go_big_quiet_step ((go_at_call 75; refine quiet_ext (C2.out _ ?_ ?_); exact hi2.ext (GW.ext _); exact hm7.out.ext (GW.ext _)))
                repeat (go_big_quiet_step (fail))
                refine wpQuiet_nil ?_
                intro w8 hE8
                go_wp2_with fail
                go_roundw
                case rel => exact ⟨q + 1, by omega, by omega, by go_num, by rw [Hs2.out], hE7.trans' hE8⟩
                case measure => simp [intOf]; omega
            · obtain rfl : q = l.length := by omega
              go_wp2_with fail
              go_ret2
              exact ⟨ret_ii (by unfold nearV; rw [if_pos E1.out]) E1.out.symm, hE5.trans' hE7⟩
        · rw [hk]
          have HK := Lib.hid hk
          clear hk
          go_wp2_with fail
          go_ret2
          have e1 : nearErr l m k = 1 := by unfold nearErr; simp [H1.out, H2.out, HT.out, HK.out]
          exact ⟨ret_ii (by unfold nearV; rw [if_neg (by rw [e1]; omega)]) e1.symm, hE5⟩
      · have hbt : (totalL m != totalL l[0]) = true := by simp [ht]
        have HT : Hid (¬ totalL m = totalL (gl l 0)) := Lib.hid (by rw [hg0]; exact ht)
        clear ht hok hg0
        go_wp2_with fail
        refine wp_region_ext (by kernel_rfl) (by kernel_rfl) ?_
        repeat (go_big_quiet_step (fail))
        go_big_quiet_step ((go_at_call 65; refine quiet_ext (f65_c a2 _ c2 m _ ?_ rfl FM.out); exact (hm.ext hE2).ext (GW.ext _)))
        repeat (go_big_quiet_step (fail))
        go_big_quiet_step ((go_at_call 65; refine quiet_ext (f65_c a0 _ c0 l[0] _ ?_ rfl F0.out); exact hi0'.ext (GW.ext _)))
        repeat (go_big_quiet_step (fail))
        refine wpQuiet_nil ?_
        intro wT hET
        have hE5 := hE2.trans' hET
        go_wp2_with fail
        go_ret2
        have e1 : nearErr l m k = 5 := by unfold nearErr; simp [H1.out, H2.out, HT.out]
        exact ⟨ret_ii (by unfold nearV; rw [if_neg (by rw [e1]; omega)]) e1.symm, hE5⟩
    · have hb : (valAtoms m != 0) = true := by simp [h0]
      have HH := Lib.hid h0
      clear h0
      go_wp2_with fail
      go_ret2
      have e1 : nearErr l m k = valAtoms m := by unfold nearErr; simp [H1.out, HH.out]
      exact ⟨ret_ii (by unfold nearV; rw [if_neg (by rw [e1]; exact HH.out)]) e1.symm, hE2⟩
  · have hb : (loadsErr l != 0) = true := by simp [h0]
    have HH := Lib.hid h0
    clear h0
    go_wp2_with fail
    go_ret2
    have e1 : nearErr l m k = loadsErr l := by unfold nearErr; simp [HH.out]
    exact ⟨ret_ii (by unfold nearV; rw [if_neg (by rw [e1]; exact HH.out)]) e1.symm, hE1⟩

set_option maxRecDepth 20000 in
set_option maxHeartbeats 8000000 in
theorem f34_c (a a2 : Option Addr) (n c n2 c2 : Nat) (l : List (List Atom)) (m : List Atom) (k : Int) (w : World) (hl : Loads w a l) (hn : l.length = n) (hlen : n ≤ 140737488355328) (hin : ∀ j, (hj : j < l.length) → l[j].length ≤ 140737488355328) (hm : Atoms w a2 m) (hn2 : m.length = n2) (hlen2 : n2 ≤ 140737488355328) :
    Calls Try.prog 34 #[.slice a n c, .slice a2 n2 c2, .int .i64 k] w fun e w' => e = .returned (.tuple #[.int .i64 (nearV l m k), .int .i64 (nearErr l m k)]) ∧ Ext w w' := by
  subst hn hn2
  go_enter Try.func34, Try.ntmps34
  go_wp2_with fail
  refine (f48_c a l.length c l _ hl rfl hlen hin).mono ?_
  rintro e w1 ⟨rfl, hE1⟩
  by_cases h0 : loadsErr l = 0
  · rw [h0]
    have H1 := Lib.hid h0
    clear h0
    go_wp2_with fail
    refine (f50_c a2 m.length c2 m _ (hm.ext hE1) rfl hlen2).mono ?_
    rintro e w2 ⟨rfl, hE2⟩
    have hE2 := hE1.trans' hE2
    by_cases h0 : valAtoms m = 0
    · rw [h0]
      have H2 := Lib.hid h0
      clear h0
      have hok := loadsErr_ok H1.out
      have hp1 := hok.pos
      have h10 : 0 < l.length := hp1
      have h5 := hok.five
      have F0 := Lib.hid (hok.fine h10)
      have FM := Lib.hid (fine_atoms H2.out)
      have hg0 := gl_at h10
      obtain ⟨b0, o0, a0, c0, rfl, hb0, hc0, hi0'⟩ := hl.ext hE2 0 h10
      simp only [Nat.add_zero] at hc0
      by_cases ht : totalL m = totalL l[0]
      · have hbt : (totalL m != totalL l[0]) = false := by simp [ht]
        have HT : Hid (totalL m = totalL (gl l 0)) := Lib.hid (by rw [hg0]; exact ht)
        have Hp := Lib.hid (fun j (hj : j < l.length) => pair_load hok H2.out HT.out hj)
        clear ht hok hg0
        go_wp2_with fail
        refine wp_region_ext (by kernel_rfl) (by kernel_rfl) ?_
        repeat (go_big_quiet_step (fail))
        go_big_quiet_step ((go_at_call 69; refine quiet_ext (f69_c a2 _ c2 m _ ?_ rfl FM.out); exact (hm.ext hE2).ext (GW.ext _)))
        repeat (go_big_quiet_step (fail))
        go_big_quiet_step ((go_at_call 69; refine quiet_ext (f69_c a0 _ c0 l[0] _ ?_ rfl F0.out); exact hi0'.ext (GW.ext _)))
        repeat (go_big_quiet_step (fail))
        refine wpQuiet_nil ?_
        intro wT hET
        have hE5 := hE2.trans' hET
        go_wp2_with fail
        refine (f76_c k _).mono ?_
        rintro e w6 ⟨rfl, rfl⟩
        rcases Bool.eq_false_or_eq_true (kindB k) with hk | hk
        · rw [hk]
          have HK := Lib.hid hk
          clear hk
          have e1 : nearErr l m k = 0 := by unfold nearErr; simp [H1.out, H2.out, HT.out, HK.out]
          have E1 := Lib.hid e1
          clear e1
          have Hap := Lib.hid (fun W j (hj : j < l.length) a' c' (h : Atoms W a' l[j]) (h' : Atoms W a2 m) => f77_c a' a2 l[j].length c' m.length c2 l[j] m k W h rfl h' rfl (Hp.out j hj) (kind_or HK.out))
          clear hc0 hi0' hb0
          go_wp2_with fail
          go_loopw [10, 11] (fun b i wr => ∃ q : Nat, 1 ≤ q ∧ q ≤ l.length ∧ i = .int .i64 q ∧ b = .int .i64 (nearTo l m k q : Nat) ∧ Ext wT wr) (fun _ i _ => l.length - (intOf i).toNat)
          case atStart => exact ⟨1, Nat.le_refl _, hp1, rfl, by rw [nearTo_one]; rfl, Below.refl _ _⟩
          case round =>
            obtain ⟨q, hq0, hq, rfl, rfl, hE7⟩ := hrel
            by_cases hlt : q < l.length
            · have hnt : nearTo l m k q < l.length := by
                rcases Nat.eq_zero_or_pos q with h | h
                · subst h; simp [nearTo]; omega
                · have := nearTo_lt l m k q h; omega
              have Hs : Hid (nearTo l m k (q + 1) = if apartL (gl l q) m k < apartL (gl l (nearTo l m k q)) m k then q else nearTo l m k q) := Lib.hid rfl
              rw [gl_at hlt, gl_at hnt] at Hs
              generalize nearTo l m k q = r at *
              obtain ⟨b1, o1, a1, c1, he1, hb1, hc1, hi1⟩ := hl.ext (hE5.trans' hE7) q hlt
              simp only [Option.some.injEq, Addr.mk.injEq] at he1
              obtain ⟨rfl, rfl, -⟩ := he1
              obtain ⟨b2, o2, a4, c4, he, hb2, hc2, hi2⟩ := hl.ext (hE5.trans' hE7) r hnt
              simp only [Option.some.injEq, Addr.mk.injEq] at he
              obtain ⟨rfl, rfl, -⟩ := he
              have hm7 := Lib.hid (hm.ext (hE5.trans' hE7))
              have C1 := Lib.hid (fun W => Hap.out W q hlt a1 c1)
              have C2 := Lib.hid (fun W => Hap.out W r hnt a4 c4)
              generalize apartL l[q] m k = A at *
              generalize apartL l[r] m k = B at *
              rcases Bool.eq_false_or_eq_true (decide (A < B)) with hd | hd
              · have hs := Hs.out
                rw [if_pos (by simpa using hd)] at hs
                have Hs2 := Lib.hid hs
                clear hs Hs
                go_wp2_with fail
                refine wp_region_ext (by kernel_rfl) (by kernel_rfl) ?_
                repeat (go_big_quiet_step (fail))
                go_big_quiet_step ((go_at_call 77; refine quiet_ext (C1.out _ ?_ ?_); exact hi1.ext (GW.ext _); exact hm7.out.ext (GW.ext _)))
                repeat (go_big_quiet_step (fail))
                go_big_quiet_step ((go_at_call 77; refine quiet_ext (C2.out _ ?_ ?_); exact hi2.ext (GW.ext _); exact hm7.out.ext (GW.ext _)))
                repeat (go_big_quiet_step (fail))
                refine wpQuiet_nil ?_
                intro w8 hE8
                go_wp2_with fail
                go_roundw
                case rel => exact ⟨q + 1, by omega, by omega, by go_num, by rw [Hs2.out], hE7.trans' hE8⟩
                case measure => simp [intOf]; omega
              · have hs := Hs.out
                rw [if_neg (by simpa using hd)] at hs
                have Hs2 := Lib.hid hs
                clear hs Hs
                go_wp2_with fail
                refine wp_region_ext (by kernel_rfl) (by kernel_rfl) ?_
                repeat (go_big_quiet_step (fail))
                go_big_quiet_step ((go_at_call 77; refine quiet_ext (C1.out _ ?_ ?_); exact hi1.ext (GW.ext _); exact hm7.out.ext (GW.ext _)))
                repeat (go_big_quiet_step (fail))
                go_big_quiet_step ((go_at_call 77; refine quiet_ext (C2.out _ ?_ ?_); exact hi2.ext (GW.ext _); exact hm7.out.ext (GW.ext _)))
                repeat (go_big_quiet_step (fail))
                refine wpQuiet_nil ?_
                intro w8 hE8
                go_wp2_with fail
                go_roundw
                case rel => exact ⟨q + 1, by omega, by omega, by go_num, by rw [Hs2.out], hE7.trans' hE8⟩
                case measure => simp [intOf]; omega
            · obtain rfl : q = l.length := by omega
              go_wp2_with fail
              go_ret2
              exact ⟨ret_ii (by unfold nearV; rw [if_pos E1.out]) E1.out.symm, hE5.trans' hE7⟩
        · rw [hk]
          have HK := Lib.hid hk
          clear hk
          go_wp2_with fail
          go_ret2
          have e1 : nearErr l m k = 1 := by unfold nearErr; simp [H1.out, H2.out, HT.out, HK.out]
          exact ⟨ret_ii (by unfold nearV; rw [if_neg (by rw [e1]; omega)]) e1.symm, hE5⟩
      · have hbt : (totalL m != totalL l[0]) = true := by simp [ht]
        have HT : Hid (¬ totalL m = totalL (gl l 0)) := Lib.hid (by rw [hg0]; exact ht)
        clear ht hok hg0
        go_wp2_with fail
        refine wp_region_ext (by kernel_rfl) (by kernel_rfl) ?_
        repeat (go_big_quiet_step (fail))
        go_big_quiet_step ((go_at_call 69; refine quiet_ext (f69_c a2 _ c2 m _ ?_ rfl FM.out); exact (hm.ext hE2).ext (GW.ext _)))
        repeat (go_big_quiet_step (fail))
        go_big_quiet_step ((go_at_call 69; refine quiet_ext (f69_c a0 _ c0 l[0] _ ?_ rfl F0.out); exact hi0'.ext (GW.ext _)))
        repeat (go_big_quiet_step (fail))
        refine wpQuiet_nil ?_
        intro wT hET
        have hE5 := hE2.trans' hET
        go_wp2_with fail
        go_ret2
        have e1 : nearErr l m k = 5 := by unfold nearErr; simp [H1.out, H2.out, HT.out]
        exact ⟨ret_ii (by unfold nearV; rw [if_neg (by rw [e1]; omega)]) e1.symm, hE5⟩
    · have hb : (valAtoms m != 0) = true := by simp [h0]
      have HH := Lib.hid h0
      clear h0
      go_wp2_with fail
      go_ret2
      have e1 : nearErr l m k = valAtoms m := by unfold nearErr; simp [H1.out, HH.out]
      exact ⟨ret_ii (by unfold nearV; rw [if_neg (by rw [e1]; exact HH.out)]) e1.symm, hE2⟩
  · have hb : (loadsErr l != 0) = true := by simp [h0]
    have HH := Lib.hid h0
    clear h0
    go_wp2_with fail
    go_ret2
    have e1 : nearErr l m k = loadsErr l := by unfold nearErr; simp [HH.out]
    exact ⟨ret_ii (by unfold nearV; rw [if_neg (by rw [e1]; exact HH.out)]) e1.symm, hE1⟩

set_option maxRecDepth 20000 in
set_option maxHeartbeats 8000000 in
theorem f35_c (a a3 a2 : Option Addr) (n c n3 c3 n2 c2 : Nat) (l : List (List Atom)) (ws : List Int) (m : List Atom) (k : Int) (w : World) (hl : Loads w a l) (hn : l.length = n) (hlen : n ≤ 140737488355328) (hin : ∀ j, (hj : j < l.length) → l[j].length ≤ 140737488355328) (hw : Ints w a3 ws) (hn3 : ws.length = n3) (hlen3 : n3 ≤ 140737488355328) (hm : Atoms w a2 m) (hn2 : m.length = n2) (hlen2 : n2 ≤ 140737488355328) :
    Calls Try.prog 35 #[.slice a n c, .slice a3 n3 c3, .slice a2 n2 c2, .int .i64 k] w fun e w' => e = .returned (.tuple #[.int .i64 (sumV l ws m k), .int .i64 (sumErr l ws m k)]) ∧ Ext w w' := by
  subst hn hn2 hn3
  go_enter Try.func35, Try.ntmps35
  go_wp2_with fail
  refine (f47_c a l.length c l _ hl rfl hlen hin).mono ?_
  rintro e w1 ⟨rfl, hE1⟩
  by_cases h0 : loadsErr l = 0
  · rw [h0]
    have H1 := Lib.hid h0
    clear h0
    go_wp2_with fail
    refine (f49_c a2 m.length c2 m _ (hm.ext hE1) rfl hlen2).mono ?_
    rintro e w2 ⟨rfl, hE2⟩
    have hE2 := hE1.trans' hE2
    by_cases h0 : valAtoms m = 0
    · rw [h0]
      have H2 := Lib.hid h0
      clear h0
      go_wp2_with fail
      refine (f78_c a a3 l.length c ws.length c3 l ws _ rfl hlen (hw.ext hE2) rfl hlen3).mono ?_
      rintro e w3 ⟨rfl, hE3⟩
      have hE3 := hE2.trans' hE3
      by_cases h0 : weightsErr l ws = 0
      · rw [h0]
        have H3 := Lib.hid h0
        clear h0
        have hok := loadsErr_ok H1.out
        have hp1 := hok.pos
        have h10 : 0 < l.length := hp1
        have h5 := hok.five
        have F0 := Lib.hid (hok.fine h10)
        have FM := Lib.hid (fine_atoms H2.out)
        have hg0 := gl_at h10
        obtain ⟨b0, o0, a0, c0, rfl, hb0, hc0, hi0'⟩ := hl.ext hE3 0 h10
        simp only [Nat.add_zero] at hc0
        by_cases ht : totalL m = totalL l[0]
        · have hbt : (totalL m != totalL l[0]) = false := by simp [ht]
          have HT : Hid (totalL m = totalL (gl l 0)) := Lib.hid (by rw [hg0]; exact ht)
          have Hp := Lib.hid (fun j (hj : j < l.length) => pair_load hok H2.out HT.out hj)
          clear ht hok hg0
          go_wp2_with fail
          refine wp_region_ext (by kernel_rfl) (by kernel_rfl) ?_
          repeat (go_big_quiet_step (fail))
          go_big_quiet_step ((go_at_call 65; refine quiet_ext (f65_c a2 _ c2 m _ ?_ rfl FM.out); exact (hm.ext hE3).ext (GW.ext _)))
          repeat (go_big_quiet_step (fail))
          go_big_quiet_step ((go_at_call 65; refine quiet_ext (f65_c a0 _ c0 l[0] _ ?_ rfl F0.out); exact hi0'.ext (GW.ext _)))
          repeat (go_big_quiet_step (fail))
          refine wpQuiet_nil ?_
          intro wT hET
          have hE5 := hE3.trans' hET
          go_wp2_with fail
          refine (f74_c k _).mono ?_
          rintro e w6 ⟨rfl, rfl⟩
          rcases Bool.eq_false_or_eq_true (kindB k) with hk | hk
          · rw [hk]
            have HK := Lib.hid hk
            clear hk
            have e1 : sumErr l ws m k = 0 := by unfold sumErr; simp [H1.out, H2.out, H3.out, HT.out, HK.out]
            have E1 := Lib.hid e1
            clear e1
            have Hap := Lib.hid (fun W j (hj : j < l.length) a' c' (h : Atoms W a' l[j]) (h' : Atoms W a2 m) => f75_c a' a2 l[j].length c' m.length c2 l[j] m k W h rfl h' rfl (Hp.out j hj) (kind_or HK.out))
            have Hab := Lib.hid (fun j (hj : j < l.length) => apartL_bd (Hp.out j hj) k)
            have Hwb : Hid (∀ j, j < l.length → 1 ≤ gi ws j ∧ gi ws j ≤ 9) := Lib.hid (fun j hj => by obtain ⟨e1, e2⟩ := weightsErr_ok H3.out; exact e2 j (by omega))
            have hws : l.length ≤ ws.length := by obtain ⟨e1, e2⟩ := weightsErr_ok H3.out; omega
            have Hsb := Lib.hid (fun q (hq : q ≤ l.length) => sumAp_bd (k := k) (loadsErr_ok H1.out) Hp.out Hwb.out hq)
            clear hc0 hi0' hb0
            go_wp2_with fail
            go_loopw [13, 44] (fun s i wr => ∃ q : Nat, q ≤ l.length ∧ i = .int .i64 q ∧ s = .int .i64 (sumAp l ws m k q) ∧ Ext wT wr) (fun _ i _ => l.length - (intOf i).toNat)
            case atStart => exact ⟨0, Nat.zero_le _, rfl, rfl, Below.refl _ _⟩
            case round =>
              obtain ⟨q, hq, rfl, rfl, hE7⟩ := hrel
              by_cases hlt : q < l.length
              · have Hs : Hid (sumAp l ws m k (q + 1) = sumAp l ws m k q + gi ws q * apartL (gl l q) m k) := Lib.hid rfl
                rw [gl_at hlt] at Hs
                obtain ⟨b1, o1, a1, c1, he1, hb1, hc1, hi1⟩ := hl.ext (hE5.trans' hE7) q hlt
                simp only [Option.some.injEq, Addr.mk.injEq] at he1
                obtain ⟨rfl, rfl, -⟩ := he1
                obtain ⟨b2, o2, rfl, hb2, hc2⟩ := hw.ext (hE5.trans' hE7) q (by omega)
                rw [← gi_at] at hc2
                have hm7 := Lib.hid (hm.ext (hE5.trans' hE7))
                have C1 := Lib.hid (fun W => Hap.out W q hlt a1 c1)
                have t1 := Hwb.out q hlt
                have t2 := Hab.out q hlt
                have t3 := Hsb.out q hq
                have hqw : q < ws.length := by omega
                generalize sumAp l ws m k q = S0 at *
                generalize apartL l[q] m k = A at *
                generalize gi ws q = x at *
                have t4 := mulbd (a := x) (b := A) (A := 9) (B := 576000000000000) (by omega) (by omega)
                have e1 : IntKind.i64.wrap (x * A) = x * A := IntWalk.i64_in _ (by omega)
                have e2 : IntKind.i64.wrap (S0 + x * A) = S0 + x * A := IntWalk.i64_in _ (by omega)
                go_wp2_with fail
                refine wp_region_ext (by kernel_rfl) (by kernel_rfl) ?_
                repeat (go_big_quiet_step (fail))
                go_big_quiet_step ((go_at_call 75; refine quiet_ext (C1.out _ ?_ ?_); exact hi1.ext (GW.ext _); exact hm7.out.ext (GW.ext _)))
                repeat (go_big_quiet_step (fail))
                refine wpQuiet_nil ?_
                intro w8 hE8
                clear e1 e2
                go_wp2_with fail
                go_roundw
                case rel => exact ⟨q + 1, by omega, by go_num, by rw [Hs.out], hE7.trans' hE8⟩
                case measure => simp [intOf]; omega
              · obtain rfl : q = l.length := by omega
                go_wp2_with fail
                go_ret2
                exact ⟨ret_ii (by unfold sumV; rw [if_pos E1.out]) E1.out.symm, hE5.trans' hE7⟩
          · rw [hk]
            have HK := Lib.hid hk
            clear hk
            go_wp2_with fail
            go_ret2
            have e1 : sumErr l ws m k = 1 := by unfold sumErr; simp [H1.out, H2.out, H3.out, HT.out, HK.out]
            exact ⟨ret_ii (by unfold sumV; rw [if_neg (by rw [e1]; omega)]) e1.symm, hE5⟩
        · have hbt : (totalL m != totalL l[0]) = true := by simp [ht]
          have HT : Hid (¬ totalL m = totalL (gl l 0)) := Lib.hid (by rw [hg0]; exact ht)
          clear ht hok hg0
          go_wp2_with fail
          refine wp_region_ext (by kernel_rfl) (by kernel_rfl) ?_
          repeat (go_big_quiet_step (fail))
          go_big_quiet_step ((go_at_call 65; refine quiet_ext (f65_c a2 _ c2 m _ ?_ rfl FM.out); exact (hm.ext hE3).ext (GW.ext _)))
          repeat (go_big_quiet_step (fail))
          go_big_quiet_step ((go_at_call 65; refine quiet_ext (f65_c a0 _ c0 l[0] _ ?_ rfl F0.out); exact hi0'.ext (GW.ext _)))
          repeat (go_big_quiet_step (fail))
          refine wpQuiet_nil ?_
          intro wT hET
          have hE5 := hE3.trans' hET
          go_wp2_with fail
          go_ret2
          have e1 : sumErr l ws m k = 5 := by unfold sumErr; simp [H1.out, H2.out, H3.out, HT.out]
          exact ⟨ret_ii (by unfold sumV; rw [if_neg (by rw [e1]; omega)]) e1.symm, hE5⟩
      · have hb : (weightsErr l ws != 0) = true := by simp [h0]
        have HH := Lib.hid h0
        clear h0
        go_wp2_with fail
        go_ret2
        have e1 : sumErr l ws m k = weightsErr l ws := by unfold sumErr; simp [H1.out, H2.out, HH.out]
        exact ⟨ret_ii (by unfold sumV; rw [if_neg (by rw [e1]; exact HH.out)]) e1.symm, hE3⟩
    · have hb : (valAtoms m != 0) = true := by simp [h0]
      have HH := Lib.hid h0
      clear h0
      go_wp2_with fail
      go_ret2
      have e1 : sumErr l ws m k = valAtoms m := by unfold sumErr; simp [H1.out, HH.out]
      exact ⟨ret_ii (by unfold sumV; rw [if_neg (by rw [e1]; exact HH.out)]) e1.symm, hE2⟩
  · have hb : (loadsErr l != 0) = true := by simp [h0]
    have HH := Lib.hid h0
    clear h0
    go_wp2_with fail
    go_ret2
    have e1 : sumErr l ws m k = loadsErr l := by unfold sumErr; simp [HH.out]
    exact ⟨ret_ii (by unfold sumV; rw [if_neg (by rw [e1]; exact HH.out)]) e1.symm, hE1⟩

set_option maxRecDepth 20000 in
set_option maxHeartbeats 8000000 in
theorem f36_c (a a3 a2 : Option Addr) (n c n3 c3 n2 c2 : Nat) (l : List (List Atom)) (ws : List Int) (m : List Atom) (k : Int) (w : World) (hl : Loads w a l) (hn : l.length = n) (hlen : n ≤ 140737488355328) (hin : ∀ j, (hj : j < l.length) → l[j].length ≤ 140737488355328) (hw : Ints w a3 ws) (hn3 : ws.length = n3) (hlen3 : n3 ≤ 140737488355328) (hm : Atoms w a2 m) (hn2 : m.length = n2) (hlen2 : n2 ≤ 140737488355328) :
    Calls Try.prog 36 #[.slice a n c, .slice a3 n3 c3, .slice a2 n2 c2, .int .i64 k] w fun e w' => e = .returned (.tuple #[.int .i64 (sumV l ws m k), .int .i64 (sumErr l ws m k)]) ∧ Ext w w' := by
  subst hn hn2 hn3
  go_enter Try.func36, Try.ntmps36
  go_wp2_with fail
  refine (f48_c a l.length c l _ hl rfl hlen hin).mono ?_
  rintro e w1 ⟨rfl, hE1⟩
  by_cases h0 : loadsErr l = 0
  · rw [h0]
    have H1 := Lib.hid h0
    clear h0
    go_wp2_with fail
    refine (f50_c a2 m.length c2 m _ (hm.ext hE1) rfl hlen2).mono ?_
    rintro e w2 ⟨rfl, hE2⟩
    have hE2 := hE1.trans' hE2
    by_cases h0 : valAtoms m = 0
    · rw [h0]
      have H2 := Lib.hid h0
      clear h0
      go_wp2_with fail
      refine (f68_c a a3 l.length c ws.length c3 l ws _ rfl hlen (hw.ext hE2) rfl hlen3).mono ?_
      rintro e w3 ⟨rfl, hE3⟩
      have hE3 := hE2.trans' hE3
      by_cases h0 : weightsErr l ws = 0
      · rw [h0]
        have H3 := Lib.hid h0
        clear h0
        have hok := loadsErr_ok H1.out
        have hp1 := hok.pos
        have h10 : 0 < l.length := hp1
        have h5 := hok.five
        have F0 := Lib.hid (hok.fine h10)
        have FM := Lib.hid (fine_atoms H2.out)
        have hg0 := gl_at h10
        obtain ⟨b0, o0, a0, c0, rfl, hb0, hc0, hi0'⟩ := hl.ext hE3 0 h10
        simp only [Nat.add_zero] at hc0
        by_cases ht : totalL m = totalL l[0]
        · have hbt : (totalL m != totalL l[0]) = false := by simp [ht]
          have HT : Hid (totalL m = totalL (gl l 0)) := Lib.hid (by rw [hg0]; exact ht)
          have Hp := Lib.hid (fun j (hj : j < l.length) => pair_load hok H2.out HT.out hj)
          clear ht hok hg0
          go_wp2_with fail
          refine wp_region_ext (by kernel_rfl) (by kernel_rfl) ?_
          repeat (go_big_quiet_step (fail))
          go_big_quiet_step ((go_at_call 69; refine quiet_ext (f69_c a2 _ c2 m _ ?_ rfl FM.out); exact (hm.ext hE3).ext (GW.ext _)))
          repeat (go_big_quiet_step (fail))
          go_big_quiet_step ((go_at_call 69; refine quiet_ext (f69_c a0 _ c0 l[0] _ ?_ rfl F0.out); exact hi0'.ext (GW.ext _)))
          repeat (go_big_quiet_step (fail))
          refine wpQuiet_nil ?_
          intro wT hET
          have hE5 := hE3.trans' hET
          go_wp2_with fail
          refine (f76_c k _).mono ?_
          rintro e w6 ⟨rfl, rfl⟩
          rcases Bool.eq_false_or_eq_true (kindB k) with hk | hk
          · rw [hk]
            have HK := Lib.hid hk
            clear hk
            have e1 : sumErr l ws m k = 0 := by unfold sumErr; simp [H1.out, H2.out, H3.out, HT.out, HK.out]
            have E1 := Lib.hid e1
            clear e1
            have Hap := Lib.hid (fun W j (hj : j < l.length) a' c' (h : Atoms W a' l[j]) (h' : Atoms W a2 m) => f77_c a' a2 l[j].length c' m.length c2 l[j] m k W h rfl h' rfl (Hp.out j hj) (kind_or HK.out))
            have Hab := Lib.hid (fun j (hj : j < l.length) => apartL_bd (Hp.out j hj) k)
            have Hwb : Hid (∀ j, j < l.length → 1 ≤ gi ws j ∧ gi ws j ≤ 9) := Lib.hid (fun j hj => by obtain ⟨e1, e2⟩ := weightsErr_ok H3.out; exact e2 j (by omega))
            have hws : l.length ≤ ws.length := by obtain ⟨e1, e2⟩ := weightsErr_ok H3.out; omega
            have Hsb := Lib.hid (fun q (hq : q ≤ l.length) => sumAp_bd (k := k) (loadsErr_ok H1.out) Hp.out Hwb.out hq)
            clear hc0 hi0' hb0
            go_wp2_with fail
            go_loopw [13, 14] (fun s i wr => ∃ q : Nat, q ≤ l.length ∧ i = .int .i64 q ∧ s = .int .i64 (sumAp l ws m k q) ∧ Ext wT wr) (fun _ i _ => l.length - (intOf i).toNat)
            case atStart => exact ⟨0, Nat.zero_le _, rfl, rfl, Below.refl _ _⟩
            case round =>
              obtain ⟨q, hq, rfl, rfl, hE7⟩ := hrel
              by_cases hlt : q < l.length
              · have Hs : Hid (sumAp l ws m k (q + 1) = sumAp l ws m k q + gi ws q * apartL (gl l q) m k) := Lib.hid rfl
                rw [gl_at hlt] at Hs
                obtain ⟨b1, o1, a1, c1, he1, hb1, hc1, hi1⟩ := hl.ext (hE5.trans' hE7) q hlt
                simp only [Option.some.injEq, Addr.mk.injEq] at he1
                obtain ⟨rfl, rfl, -⟩ := he1
                obtain ⟨b2, o2, rfl, hb2, hc2⟩ := hw.ext (hE5.trans' hE7) q (by omega)
                rw [← gi_at] at hc2
                have hm7 := Lib.hid (hm.ext (hE5.trans' hE7))
                have C1 := Lib.hid (fun W => Hap.out W q hlt a1 c1)
                have t1 := Hwb.out q hlt
                have t2 := Hab.out q hlt
                have t3 := Hsb.out q hq
                have hqw : q < ws.length := by omega
                generalize sumAp l ws m k q = S0 at *
                generalize apartL l[q] m k = A at *
                generalize gi ws q = x at *
                have t4 := mulbd (a := x) (b := A) (A := 9) (B := 576000000000000) (by omega) (by omega)
                have e1 : IntKind.i64.wrap (x * A) = x * A := IntWalk.i64_in _ (by omega)
                have e2 : IntKind.i64.wrap (S0 + x * A) = S0 + x * A := IntWalk.i64_in _ (by omega)
                go_wp2_with fail
                refine wp_region_ext (by kernel_rfl) (by kernel_rfl) ?_
                repeat (go_big_quiet_step (fail))
                go_big_quiet_step ((go_at_call 77; refine quiet_ext (C1.out _ ?_ ?_); exact hi1.ext (GW.ext _); exact hm7.out.ext (GW.ext _)))
                repeat (go_big_quiet_step (fail))
                refine wpQuiet_nil ?_
                intro w8 hE8
                clear e1 e2
                go_wp2_with fail
                go_roundw
                case rel => exact ⟨q + 1, by omega, by go_num, by rw [Hs.out], hE7.trans' hE8⟩
                case measure => simp [intOf]; omega
              · obtain rfl : q = l.length := by omega
                go_wp2_with fail
                go_ret2
                exact ⟨ret_ii (by unfold sumV; rw [if_pos E1.out]) E1.out.symm, hE5.trans' hE7⟩
          · rw [hk]
            have HK := Lib.hid hk
            clear hk
            go_wp2_with fail
            go_ret2
            have e1 : sumErr l ws m k = 1 := by unfold sumErr; simp [H1.out, H2.out, H3.out, HT.out, HK.out]
            exact ⟨ret_ii (by unfold sumV; rw [if_neg (by rw [e1]; omega)]) e1.symm, hE5⟩
        · have hbt : (totalL m != totalL l[0]) = true := by simp [ht]
          have HT : Hid (¬ totalL m = totalL (gl l 0)) := Lib.hid (by rw [hg0]; exact ht)
          clear ht hok hg0
          go_wp2_with fail
          refine wp_region_ext (by kernel_rfl) (by kernel_rfl) ?_
          repeat (go_big_quiet_step (fail))
          go_big_quiet_step ((go_at_call 69; refine quiet_ext (f69_c a2 _ c2 m _ ?_ rfl FM.out); exact (hm.ext hE3).ext (GW.ext _)))
          repeat (go_big_quiet_step (fail))
          go_big_quiet_step ((go_at_call 69; refine quiet_ext (f69_c a0 _ c0 l[0] _ ?_ rfl F0.out); exact hi0'.ext (GW.ext _)))
          repeat (go_big_quiet_step (fail))
          refine wpQuiet_nil ?_
          intro wT hET
          have hE5 := hE3.trans' hET
          go_wp2_with fail
          go_ret2
          have e1 : sumErr l ws m k = 5 := by unfold sumErr; simp [H1.out, H2.out, H3.out, HT.out]
          exact ⟨ret_ii (by unfold sumV; rw [if_neg (by rw [e1]; omega)]) e1.symm, hE5⟩
      · have hb : (weightsErr l ws != 0) = true := by simp [h0]
        have HH := Lib.hid h0
        clear h0
        go_wp2_with fail
        go_ret2
        have e1 : sumErr l ws m k = weightsErr l ws := by unfold sumErr; simp [H1.out, H2.out, HH.out]
        exact ⟨ret_ii (by unfold sumV; rw [if_neg (by rw [e1]; exact HH.out)]) e1.symm, hE3⟩
    · have hb : (valAtoms m != 0) = true := by simp [h0]
      have HH := Lib.hid h0
      clear h0
      go_wp2_with fail
      go_ret2
      have e1 : sumErr l ws m k = valAtoms m := by unfold sumErr; simp [H1.out, HH.out]
      exact ⟨ret_ii (by unfold sumV; rw [if_neg (by rw [e1]; exact HH.out)]) e1.symm, hE2⟩
  · have hb : (loadsErr l != 0) = true := by simp [h0]
    have HH := Lib.hid h0
    clear h0
    go_wp2_with fail
    go_ret2
    have e1 : sumErr l ws m k = loadsErr l := by unfold sumErr; simp [HH.out]
    exact ⟨ret_ii (by unfold sumV; rw [if_neg (by rw [e1]; exact HH.out)]) e1.symm, hE1⟩

end Go.Proofs.Ytgnjaapjaglleaa
