/- Contract of the program: Stretches. -/
import Derived.Test.YtodlbgncdggimaaStr
namespace Go.Proofs.Ytodlbgncdggimaa
open Go.RowKit
attribute [local go_sem] GW.cell

set_option maxRecDepth 20000 in
set_option maxHeartbeats 16000000 in
theorem f41_c (a b : Option Addr) (n c m d : Nat) (pl ws : List Int) (fr to : Int) (w : World) (hp : Ints w a pl) (hw : Ints w b ws) (hn : pl.length = n) (hm : ws.length = m) (hlen : n ≤ 140737488355328) (hlm : m ≤ 140737488355328) :
    Calls Try.prog 41 #[.slice a n c, .slice b m d, .int .i64 fr, .int .i64 to] w (RetStrs (strsL pl ws fr to) (errOf (okStr pl ws fr to)) w) := by
  subst hn hm
  have hc := f43_c a pl.length c pl w hp rfl hlen
  rcases errOf_cases2 (okLine pl) with ⟨hok, he⟩ | ⟨hok, he⟩
  · rw [he] at hc
    have Hc := Lib.hid hc
    have hcw := fun W (h : Ints W b ws) => f57_c 20000 b ws.length d ws W h rfl hlm (by omega) (by omega)
    by_cases hq : ws.length = pl.length
    · have hne : ((ws.length : Int) != (pl.length : Int)) = false := by simp [hq]
      rcases Bool.eq_false_or_eq_true (allIn 20000 ws) with hin | hin
      · simp only [hin] at hcw
        have Hcw := Lib.hid hcw
        rcases Bool.eq_false_or_eq_true (withinB fr (-30) 30 && withinB to (-30) 30) with hft | hft
        · have h2 : allIn 30 [fr, to] = true := by rw [allIn2]; exact hft
          have H2 := Lib.hid h2
          by_cases hlt : fr < to
          · have hd : decide (to ≤ fr) = false := by simp; omega
            have hyes := okStr_yes hok hq hin hft hlt
            have hL : strsL pl ws fr to = (List.range pl.length).map (strAt pl ws fr to) := by unfold strsL; rw [if_pos hyes]
            rw [hL, show errOf (okStr pl ws fr to) = 0 by rw [hyes]; rfl]
            have hfb := withinB_iff.1 (Bool.and_eq_true_iff.1 hft).1
            have htb := withinB_iff.1 (Bool.and_eq_true_iff.1 hft).2
            have hl5 := (okLine_spec hok).1
            have Hok := Lib.hid hok
            have Hq := Lib.hid hq
            have Hin := Lib.hid hin
            obtain ⟨i0, hi0⟩ := info_parts info68
            have Hi := Lib.hid hi0
            clear hc hcw hok he hin hft h2 hyes hL hi0 hq
            go_enter Try.func41, Try.ntmps41
            go_wp2_with fail
            refine Hc.out.mono ?_
            rintro e w1 ⟨rfl, hE1⟩
            clear Hc
            go_wp2_with fail
            refine (Hcw.out _ (hw.ext hE1)).mono ?_
            rintro e w2 ⟨rfl, hE2⟩
            clear Hcw
            go_wp2_with fail
            refine (f57_c 30 _ 2 2 [fr, to] _ (ints_new2 _ _ _ _ _ (by simp)) (by rfl) (by omega) (by omega) (by omega)).mono ?_
            rintro e w3 ⟨rfl, hE3⟩
            rw [H2.out]
            have hE4 := hE1.trans' (hE2.trans' ((ext_alloc _ _).trans' hE3))
            clear hE1 hE2 hE3
            go_wp2_with fail
            go_loopw [11, 12, 13, 14, 15, 16, 17, 47, 59] (fun v _ _ _ _ _ _ i _ wr => ∃ k : Nat, k ≤ pl.length ∧ i = .int .i64 k ∧ Ext w wr ∧ Hid (wr.ownsRow w.heap.size 68 4 v k (strsV ((List.range k).map (strAt pl ws fr to))))) (fun _ _ _ _ _ _ _ i _ _ => pl.length - (intOf i).toNat)
            case atStart => exact ⟨0, by omega, rfl, hE4, Lib.hid (World.ownsRow_nil _ _ _ _)⟩
            case round =>
              obtain ⟨k, hk, rfl, hE, H⟩ := hrel
              by_cases hlk : k < pl.length
              · obtain ⟨b1, o1, rfl, hb1, hc1⟩ := hp.ext hE k hlk
                generalize hpk : pl[k]?.getD 0 = pk at *
                have Hpk := Lib.hid hpk
                clear hpk
                go_wp2_with fail
                refine (ratio_one fr _ (by omega)).mono ?_
                rintro e w4 ⟨rfl, hE5⟩
                go_wp2_with fail
                refine (ratio_one to _ (by omega)).mono ?_
                rintro e w5 ⟨rfl, hE6⟩
                have hE7 := hE.trans' (hE5.trans' hE6)
                have H7 := Lib.hid (row_ext H.out (hE5.trans' hE6))
                clear H
                have HvP := Lib.hid (row_new H7.out)
                have hq0 : QuadS (w5.alloc (.cells #[.int .i64 fr, .int .i64 1, .int .i64 to, .int .i64 1] 68)) w5.heap.size ⟨fr, 1, to, 1⟩ := Quad.new w5 68 _ _ _ _
                have Hq0 := Lib.hid hq0
                have hE8 := hE7.trans' (ext_alloc w5 (.cells #[.int .i64 fr, .int .i64 1, .int .i64 to, .int .i64 1] 68))
                have H8 := Lib.hid (World.ownsRow.alloc H7.out (.cells #[.int .i64 fr, .int .i64 1, .int .i64 to, .int .i64 1] 68))
                have hsz5 := hE7.size
                clear hq0
                go_wp2_with fail
                go_loopw [15, 16, 17, 59] (fun _ _ _ i wr => ∃ q : Nat, q ≤ pl.length ∧ i = .int .i64 q ∧ Ext w wr ∧ w5.heap.size < wr.heap.size ∧ Hid (QuadS wr w5.heap.size (cutTo pl ws k ⟨fr, 1, to, 1⟩ q)) ∧ Hid (wr.ownsRow w.heap.size 68 4 _ k (strsV ((List.range k).map (strAt pl ws fr to))))) (fun _ _ _ i _ => pl.length - (intOf i).toNat)
                case atStart => exact ⟨0, by omega, rfl, hE8, by simp, Hq0, H8⟩
                case round =>
                  obtain ⟨q, hq, rfl, hE9, hszq, HQ, H9⟩ := hrel
                  by_cases hlq : q < pl.length
                  · obtain ⟨b2, o2, he2, hb2, hc2⟩ := hp.ext hE9 q hlq
                    simp only [Option.some.injEq, Addr.mk.injEq] at he2
                    obtain ⟨rfl, rfl, -⟩ := he2
                    by_cases heq : q = k
                    · have hcut : cutTo pl ws k ⟨fr, 1, to, 1⟩ (q + 1) = cutTo pl ws k ⟨fr, 1, to, 1⟩ q := by rw [cutTo, cut, if_pos heq]
                      have Hcut := Lib.hid hcut
                      have hb : ((q : Int) == (k : Int)) = true := by simp [heq]
                      clear hcut heq
                      generalize hpq : pl[q]?.getD 0 = pq at *
                      clear hpq
                      go_wp2_with fail
                      go_roundw
                      case rel => exact ⟨q + 1, by omega, by go_num, hE9, hszq, by rw [Hcut.out]; exact HQ, H9⟩
                      case measure => simp [intOf]; omega
                    · have hb : ((q : Int) == (k : Int)) = false := by simp; omega
                      obtain ⟨bw, ow, rfl, hbw, hcw1⟩ := hw.ext hE9 k (by rw [Hq.out]; exact hlk)
                      obtain ⟨bw2, ow2, he3, hbw2, hcw2⟩ := hw.ext hE9 q (by rw [Hq.out]; exact hlq)
                      simp only [Option.some.injEq, Addr.mk.injEq] at he3
                      obtain ⟨rfl, rfl, -⟩ := he3
                      obtain ⟨⟨r1, r2⟩, r3, r4⟩ := cut_rat Hok.out Hq.out Hin.out hlk hlq heq
                      have hnb := cutN_bd Hok.out Hq.out Hin.out hlk hlq
                      have hkw1 : k < ws.length := by rw [Hq.out]; exact hlk
                      have hqw1 : q < ws.length := by rw [Hq.out]; exact hlq
                      have hkp := sq30 (line_in Hok.out hlk)
                      have hqp := sq30 (line_in Hok.out hlq)
                      have hkl := line_in Hok.out hlk
                      have hql := line_in Hok.out hlq
                      have hkw := all_in Hin.out (k := k) (by rw [Hq.out]; exact hlk)
                      have hqw := all_in Hin.out (k := q) (by rw [Hq.out]; exact hlq)
                      have hbd := cutTo_bd Hok.out Hq.out Hin.out hlk (s := ⟨fr, 1, to, 1⟩) ⟨⟨by show -50000 ≤ fr; omega, by show fr ≤ 50000; omega⟩, ⟨by show (1 : Int) ≤ 1; omega, by show (1 : Int) ≤ 120; omega⟩, ⟨by show -50000 ≤ to; omega, by show to ≤ 50000; omega⟩, ⟨by show (1 : Int) ≤ 1; omega, by show (1 : Int) ≤ 120; omega⟩⟩ q hq
                      have hN : cutN pl ws k q = pl[q]?.getD 0 * pl[q]?.getD 0 - pl[k]?.getD 0 * pl[k]?.getD 0 + ws[k]?.getD 0 - ws[q]?.getD 0 := rfl
                      have hD : cutD pl k q = 2 * (pl[q]?.getD 0 - pl[k]?.getD 0) := rfl
                      have hcut : cutTo pl ws k ⟨fr, 1, to, 1⟩ (q + 1) = cut pl ws k (cutTo pl ws k ⟨fr, 1, to, 1⟩ q) q := rfl
                      rcases Nat.lt_or_ge k q with hkq | hkq
                      · have hdb := cutD_up Hok.out hkq hlq
                        have hlt3 := line_lt Hok.out hkq hlq
                        rw [cut, if_neg heq, if_pos hkq] at hcut
                        have h76 := fun W => f76_c (cutN pl ws k q) (cutD pl k q) W (by omega) (by omega) (by omega) (by omega) (by omega)
                        simp only [ratV_is] at h76
                        generalize ratN (cutN pl ws k q) (cutD pl k q) = xn at *
                        generalize ratD (cutN pl ws k q) (cutD pl k q) = xd at *
                        rw [hN, hD] at h76
                        rw [hN] at hnb
                        rw [hD] at hdb
                        have Hcut := Lib.hid hcut
                        rw [Hpk.out] at h76 hkp hkl hlt3 hnb hdb
                        clear hcut hN hD
                        generalize hst : cutTo pl ws k ⟨fr, 1, to, 1⟩ q = st at *
                        generalize hpq : pl[q]?.getD 0 = pq at *
                        generalize hwk : ws[k]?.getD 0 = wk at *
                        generalize hwq : ws[q]?.getD 0 = wq at *
                        have H76 := Lib.hid h76
                        clear h76 hst hpq hwk hwq
                        go_wp2_with fail
                        refine wp_region_float (A := ?A15) 127 [true, true, true, true, true, true, true, true, true, true, true, true, true, true, true, true, true, true, true, true, true, true, false] [⟨22, 17, #[.int .i64 0, .int .i64 0], 55⟩] (by kernel_rfl) (by kernel_rfl) rfl ?hmk ?hwalk ?htail
                        case hmk =>
                          intro m hm o ho ρ W
                          obtain rfl := List.mem_singleton.1 hm
                          obtain rfl := Option.some.inj ho
                          exact run_alloc55 ρ W _ _ _ _
                        case hwalk =>
                          intro W1 hW1
                          have g3 := (hW1.cell' hbw).trans hcw1
                          have g4 := (hW1.cell' hbw2).trans hcw2
                          have k3 := Nat.lt_of_lt_of_le hbw hW1.size
                          simp only [pickQ]
                          repeat (go_big_quiet_step ((go_at_call 76; exact quiet_ext (H76.out _))))
                          refine wpQuiet_nil ?_
                          rfl
                        case htail =>
                          intro bs W6 hE10 hmade
                          obtain ⟨X6, hX6, hX7, hbs'⟩ := hmade _ (List.mem_singleton.2 rfl)
                          have hbs : bs 22 = X6.heap.size := hbs'
                          clear hbs' hmade
                          simp only [putAll, ptrV, List.drop_succ_cons, List.drop_zero, List.length_cons, List.length_nil, Nat.reduceAdd]
                          generalize bs 22 = B at hbs ⊢
                          obtain ⟨sfn, sfd, stn, std⟩ := st
                          obtain ⟨⟨c1, c2⟩, ⟨c3, c4⟩, ⟨c5, c6⟩, ⟨c7, c8⟩⟩ : (-50000 ≤ sfn ∧ sfn ≤ 50000) ∧ (1 ≤ sfd ∧ sfd ≤ 120) ∧ (-50000 ≤ stn ∧ stn ≤ 50000) ∧ (1 ≤ std ∧ std ≤ 120) := hbd
                          have hBs : wr.heap.size ≤ B := by rw [hbs]; exact hX6.size
                          have hB5 : w5.heap.size < B := by omega
                          have hBw : w.heap.size ≤ B := by omega
                          have hP6 : Pair W6 B 55 (.int .i64 0) (.int .i64 0) := by rw [hbs]; exact Blk.ext (Pair.new X6 55 _ _) hX7
                          clear hbs hX6 hX7
                          have hQ6 : Quad W6 w5.heap.size 68 (.int .i64 sfn) (.int .i64 sfd) (.int .i64 stn) (.int .i64 std) := Blk.ext HQ.out hE10
                          have p0 := hP6.cell0
                          have p1 := hP6.cell1
                          have pf := fun i => hP6.frozen i
                          have hQ7 : Quad ((W6.setCell ⟨B, 0, none⟩ (.int .i64 xn)).setCell ⟨B, 1, none⟩ (.int .i64 xd)) w5.heap.size 68 (.int .i64 sfn) (.int .i64 sfd) (.int .i64 stn) (.int .i64 std) := Blk.other' (Blk.other' hQ6 (Nat.ne_of_lt hB5) 0 _) (Nat.ne_of_lt hB5) 1 _
                          have hP7 : Pair ((W6.setCell ⟨B, 0, none⟩ (.int .i64 xn)).setCell ⟨B, 1, none⟩ (.int .i64 xd)) B 55 (.int .i64 xn) (.int .i64 xd) := (hP6.set0 _).set1 _
                          have q0 := hQ7.cell0
                          have q1 := hQ7.cell1
                          have q2 := hQ7.cell2
                          have q3 := hQ7.cell3
                          have t0 := hP7.cell0
                          have t1 := hP7.cell1
                          have hsm : Small xn xd stn std := by
                            have z1 := mul_bd (a := xn) (b := std) (A := 50000) (B := 120) (by omega) (by omega)
                            have z2 := mul_bd (a := stn) (b := xd) (A := 50000) (B := 120) (by omega) (by omega)
                            exact ⟨by omega, by omega⟩
                          have C78 := Lib.hid (fun W => f78_c xn xd stn std W hsm)
                          have dg : decide (pk < pq) = true := by simp; omega
                          have dg2 : decide (pq < pk) = false := by simp; omega
                          have hEa : Ext w ((W6.setCell ⟨B, 0, none⟩ (.int .i64 xn)).setCell ⟨B, 1, none⟩ (.int .i64 xd)) := ((hE9.trans' hE10).setCell (p := ⟨B, 0, none⟩) (show w.heap.size ≤ B by omega) (.int .i64 xn)).setCell (p := ⟨B, 1, none⟩) (show w.heap.size ≤ B by omega) (.int .i64 xd)
                          have hvB := row_far2 H9.out hBs
                          have HRa := Lib.hid (row_set_other (row_set_other (row_ext H9.out hE10) hvB 0 (.int .i64 xn)) hvB 1 (.int .i64 xd))
                          have hsa := hQ7.lt
                          have hsb := hP7.lt
                          clear H76 hkp hqp hnb hdb hkl hql hkw hqw hsm hQ6 HQ H9 hvB hE10
                          go_wp2_with fail
                          clear p0 p1 pf hP6
                          generalize ((W6.setCell ⟨B, 0, none⟩ (.int .i64 xn)).setCell ⟨B, 1, none⟩ (.int .i64 xd)) = w7 at *
                          refine (C78.out _).mono ?_
                          rintro e w8 ⟨rfl, hE12⟩
                          have hQ8 : Quad w8 w5.heap.size 68 (.int .i64 sfn) (.int .i64 sfd) (.int .i64 stn) (.int .i64 std) := Blk.ext hQ7 hE12
                          have q0 := hQ8.cell0
                          have q1 := hQ8.cell1
                          have q2 := hQ8.cell2
                          have q3 := hQ8.cell3
                          have qf := fun i => hQ8.frozen i
                          have t0 := (hE12.cell' hsb).trans t0
                          have t1 := (hE12.cell' hsb).trans t1
                          have hE13 := hEa.trans' hE12
                          have HR8 := Lib.hid (row_ext HRa.out hE12)
                          have hs8 : w5.heap.size < w8.heap.size := Nat.lt_of_lt_of_le hsa hE12.size
                          by_cases hl : xn * std < stn * xd
                          · have dl : decide (xn * std < stn * xd) = true := by simpa using hl
                            have Hn : Hid (cutTo pl ws k ⟨fr, 1, to, 1⟩ (q + 1) = ⟨sfn, sfd, xn, xd⟩) := Lib.hid (Hcut.out.trans (if_pos hl))
                            rw [dl]
                            clear hl dl Hcut
                            go_wp2_with fail
                            go_roundw
                            case rel => exact ⟨q + 1, by omega, by go_num, (hE13.setCell (show w.heap.size ≤ w5.heap.size by omega) _).setCell (show w.heap.size ≤ w5.heap.size by omega) _, by simpa using hs8, by rw [Hn.out]; exact Lib.hid ((hQ8.set2 _).set3 _), Lib.hid (row_set_other (row_set_other HR8.out HvP.out _ _) HvP.out _ _)⟩
                            case measure => simp [intOf]; omega
                          · have dl : decide (xn * std < stn * xd) = false := by simpa using hl
                            have Hn : Hid (cutTo pl ws k ⟨fr, 1, to, 1⟩ (q + 1) = ⟨sfn, sfd, stn, std⟩) := Lib.hid (Hcut.out.trans (if_neg hl))
                            rw [dl]
                            clear hl dl Hcut
                            go_wp2_with fail
                            go_roundw
                            case rel => exact ⟨q + 1, by omega, by go_num, hE13, hs8, by rw [Hn.out]; exact Lib.hid hQ8, HR8⟩
                            case measure => simp [intOf]; omega
                      · have hkq2 : q < k := by omega
                        have hdb := cutD_down Hok.out hkq2 hlk
                        have hlt3 := line_lt Hok.out hkq2 hlk
                        rw [cut, if_neg heq, if_neg (by omega)] at hcut
                        have h76 := fun W => f76_c (cutN pl ws k q) (cutD pl k q) W (by omega) (by omega) (by omega) (by omega) (by omega)
                        simp only [ratV_is] at h76
                        generalize ratN (cutN pl ws k q) (cutD pl k q) = xn at *
                        generalize ratD (cutN pl ws k q) (cutD pl k q) = xd at *
                        rw [hN, hD] at h76
                        rw [hN] at hnb
                        rw [hD] at hdb
                        have Hcut := Lib.hid hcut
                        rw [Hpk.out] at h76 hkp hkl hlt3 hnb hdb
                        clear hcut hN hD
                        generalize hst : cutTo pl ws k ⟨fr, 1, to, 1⟩ q = st at *
                        generalize hpq : pl[q]?.getD 0 = pq at *
                        generalize hwk : ws[k]?.getD 0 = wk at *
                        generalize hwq : ws[q]?.getD 0 = wq at *
                        have H76 := Lib.hid h76
                        clear h76 hst hpq hwk hwq
                        go_wp2_with fail
                        refine wp_region_float (A := ?A15b) 127 [true, true, true, true, true, true, true, true, true, true, true, true, true, true, true, true, true, true, true, true, true, true, false] [⟨22, 17, #[.int .i64 0, .int .i64 0], 55⟩] (by kernel_rfl) (by kernel_rfl) rfl ?hmkb ?hwalkb ?htailb
                        case hmkb =>
                          intro m hm o ho ρ W
                          obtain rfl := List.mem_singleton.1 hm
                          obtain rfl := Option.some.inj ho
                          exact run_alloc55 ρ W _ _ _ _
                        case hwalkb =>
                          intro W1 hW1
                          have g3 := (hW1.cell' hbw).trans hcw1
                          have g4 := (hW1.cell' hbw2).trans hcw2
                          have k3 := Nat.lt_of_lt_of_le hbw hW1.size
                          simp only [pickQ]
                          repeat (go_big_quiet_step ((go_at_call 76; exact quiet_ext (H76.out _))))
                          refine wpQuiet_nil ?_
                          rfl
                        case htailb =>
                          intro bs W6 hE10 hmade
                          obtain ⟨X6, hX6, hX7, hbs'⟩ := hmade _ (List.mem_singleton.2 rfl)
                          have hbs : bs 22 = X6.heap.size := hbs'
                          clear hbs' hmade
                          simp only [putAll, ptrV, List.drop_succ_cons, List.drop_zero, List.length_cons, List.length_nil, Nat.reduceAdd]
                          generalize bs 22 = B at hbs ⊢
                          obtain ⟨sfn, sfd, stn, std⟩ := st
                          obtain ⟨⟨c1, c2⟩, ⟨c3, c4⟩, ⟨c5, c6⟩, ⟨c7, c8⟩⟩ : (-50000 ≤ sfn ∧ sfn ≤ 50000) ∧ (1 ≤ sfd ∧ sfd ≤ 120) ∧ (-50000 ≤ stn ∧ stn ≤ 50000) ∧ (1 ≤ std ∧ std ≤ 120) := hbd
                          have hBs : wr.heap.size ≤ B := by rw [hbs]; exact hX6.size
                          have hB5 : w5.heap.size < B := by omega
                          have hBw : w.heap.size ≤ B := by omega
                          have hP6 : Pair W6 B 55 (.int .i64 0) (.int .i64 0) := by rw [hbs]; exact Blk.ext (Pair.new X6 55 _ _) hX7
                          clear hbs hX6 hX7
                          have hQ6 : Quad W6 w5.heap.size 68 (.int .i64 sfn) (.int .i64 sfd) (.int .i64 stn) (.int .i64 std) := Blk.ext HQ.out hE10
                          have p0 := hP6.cell0
                          have p1 := hP6.cell1
                          have pf := fun i => hP6.frozen i
                          have hQ7 : Quad ((W6.setCell ⟨B, 0, none⟩ (.int .i64 xn)).setCell ⟨B, 1, none⟩ (.int .i64 xd)) w5.heap.size 68 (.int .i64 sfn) (.int .i64 sfd) (.int .i64 stn) (.int .i64 std) := Blk.other' (Blk.other' hQ6 (Nat.ne_of_lt hB5) 0 _) (Nat.ne_of_lt hB5) 1 _
                          have hP7 : Pair ((W6.setCell ⟨B, 0, none⟩ (.int .i64 xn)).setCell ⟨B, 1, none⟩ (.int .i64 xd)) B 55 (.int .i64 xn) (.int .i64 xd) := (hP6.set0 _).set1 _
                          have q0 := hQ7.cell0
                          have q1 := hQ7.cell1
                          have q2 := hQ7.cell2
                          have q3 := hQ7.cell3
                          have t0 := hP7.cell0
                          have t1 := hP7.cell1
                          have hsm : Small sfn sfd xn xd := by
                            have z1 := mul_bd (a := sfn) (b := xd) (A := 50000) (B := 120) (by omega) (by omega)
                            have z2 := mul_bd (a := xn) (b := sfd) (A := 50000) (B := 120) (by omega) (by omega)
                            exact ⟨by omega, by omega⟩
                          have C78 := Lib.hid (fun W => f78_c sfn sfd xn xd W hsm)
                          have dg : decide (pk < pq) = false := by simp; omega
                          have dg2 : decide (pq < pk) = true := by simp; omega
                          have hEa : Ext w ((W6.setCell ⟨B, 0, none⟩ (.int .i64 xn)).setCell ⟨B, 1, none⟩ (.int .i64 xd)) := ((hE9.trans' hE10).setCell (p := ⟨B, 0, none⟩) (show w.heap.size ≤ B by omega) (.int .i64 xn)).setCell (p := ⟨B, 1, none⟩) (show w.heap.size ≤ B by omega) (.int .i64 xd)
                          have hvB := row_far2 H9.out hBs
                          have HRa := Lib.hid (row_set_other (row_set_other (row_ext H9.out hE10) hvB 0 (.int .i64 xn)) hvB 1 (.int .i64 xd))
                          have hsa := hQ7.lt
                          have hsb := hP7.lt
                          clear H76 hkp hqp hnb hdb hkl hql hkw hqw hsm hQ6 HQ H9 hvB hE10
                          go_wp2_with fail
                          clear p0 p1 pf hP6
                          generalize ((W6.setCell ⟨B, 0, none⟩ (.int .i64 xn)).setCell ⟨B, 1, none⟩ (.int .i64 xd)) = w7 at *
                          refine (C78.out _).mono ?_
                          rintro e w8 ⟨rfl, hE12⟩
                          have hQ8 : Quad w8 w5.heap.size 68 (.int .i64 sfn) (.int .i64 sfd) (.int .i64 stn) (.int .i64 std) := Blk.ext hQ7 hE12
                          have q0 := hQ8.cell0
                          have q1 := hQ8.cell1
                          have q2 := hQ8.cell2
                          have q3 := hQ8.cell3
                          have qf := fun i => hQ8.frozen i
                          have t0 := (hE12.cell' hsb).trans t0
                          have t1 := (hE12.cell' hsb).trans t1
                          have hE13 := hEa.trans' hE12
                          have HR8 := Lib.hid (row_ext HRa.out hE12)
                          have hs8 : w5.heap.size < w8.heap.size := Nat.lt_of_lt_of_le hsa hE12.size
                          by_cases hl : sfn * xd < xn * sfd
                          · have dl : decide (sfn * xd < xn * sfd) = true := by simpa using hl
                            have Hn : Hid (cutTo pl ws k ⟨fr, 1, to, 1⟩ (q + 1) = ⟨xn, xd, stn, std⟩) := Lib.hid (Hcut.out.trans (if_pos hl))
                            rw [dl]
                            clear hl dl Hcut
                            go_wp2_with fail
                            go_roundw
                            case rel => exact ⟨q + 1, by omega, by go_num, (hE13.setCell (show w.heap.size ≤ w5.heap.size by omega) _).setCell (show w.heap.size ≤ w5.heap.size by omega) _, by simpa using hs8, by rw [Hn.out]; exact Lib.hid ((hQ8.set0 _).set1 _), Lib.hid (row_set_other (row_set_other HR8.out HvP.out _ _) HvP.out _ _)⟩
                            case measure => simp [intOf]; omega
                          · have dl : decide (sfn * xd < xn * sfd) = false := by simpa using hl
                            have Hn : Hid (cutTo pl ws k ⟨fr, 1, to, 1⟩ (q + 1) = ⟨sfn, sfd, stn, std⟩) := Lib.hid (Hcut.out.trans (if_neg hl))
                            rw [dl]
                            clear hl dl Hcut
                            go_wp2_with fail
                            go_roundw
                            case rel => exact ⟨q + 1, by omega, by go_num, hE13, hs8, by rw [Hn.out]; exact Lib.hid hQ8, HR8⟩
                            case measure => simp [intOf]; omega
                  · obtain rfl : q = pl.length := by omega
                    have Hraw : Hid (strAt pl ws fr to k = if (cutTo pl ws k ⟨fr, 1, to, 1⟩ pl.length).fn * (cutTo pl ws k ⟨fr, 1, to, 1⟩ pl.length).td < (cutTo pl ws k ⟨fr, 1, to, 1⟩ pl.length).tn * (cutTo pl ws k ⟨fr, 1, to, 1⟩ pl.length).fd then cutTo pl ws k ⟨fr, 1, to, 1⟩ pl.length else ⟨0, 1, 0, 1⟩) := Lib.hid rfl
                    have hbd := cutTo_bd Hok.out Hq.out Hin.out hlk (s := ⟨fr, 1, to, 1⟩) ⟨⟨by show -50000 ≤ fr; omega, by show fr ≤ 50000; omega⟩, ⟨by show (1 : Int) ≤ 1; omega, by show (1 : Int) ≤ 120; omega⟩, ⟨by show -50000 ≤ to; omega, by show to ≤ 50000; omega⟩, ⟨by show (1 : Int) ≤ 1; omega, by show (1 : Int) ≤ 120; omega⟩⟩ pl.length (Nat.le_refl _)
                    generalize cutTo pl ws k ⟨fr, 1, to, 1⟩ pl.length = st at *
                    obtain ⟨sfn, sfd, stn, std⟩ := st
                    obtain ⟨⟨c1, c2⟩, ⟨c3, c4⟩, ⟨c5, c6⟩, ⟨c7, c8⟩⟩ : (-50000 ≤ sfn ∧ sfn ≤ 50000) ∧ (1 ≤ sfd ∧ sfd ≤ 120) ∧ (-50000 ≤ stn ∧ stn ≤ 50000) ∧ (1 ≤ std ∧ std ≤ 120) := hbd
                    have hQ7 : Quad wr w5.heap.size 68 (.int .i64 sfn) (.int .i64 sfd) (.int .i64 stn) (.int .i64 std) := HQ.out
                    have q0 := hQ7.cell0
                    have q1 := hQ7.cell1
                    have q2 := hQ7.cell2
                    have q3 := hQ7.cell3
                    have hsm : Small sfn sfd stn std := by
                      have z1 := mul_bd (a := sfn) (b := std) (A := 50000) (B := 120) (by omega) (by omega)
                      have z2 := mul_bd (a := stn) (b := sfd) (A := 50000) (B := 120) (by omega) (by omega)
                      exact ⟨by omega, by omega⟩
                    have C78 := Lib.hid (fun W => f78_c sfn sfd stn std W hsm)
                    clear hsm HQ
                    go_wp2_with fail
                    refine (C78.out _).mono ?_
                    rintro e w8 ⟨rfl, hE12⟩
                    have hQ8 : Quad w8 w5.heap.size 68 (.int .i64 sfn) (.int .i64 sfd) (.int .i64 stn) (.int .i64 std) := Blk.ext hQ7 hE12
                    have q0 := hQ8.cell0
                    have q1 := hQ8.cell1
                    have q2 := hQ8.cell2
                    have q3 := hQ8.cell3
                    have hX8 := hE9.trans' hE12
                    have HR8 := Lib.hid (row_ext H9.out hE12)
                    have hs8 : w5.heap.size < w8.heap.size := Nat.lt_of_lt_of_le hszq hE12.size
                    by_cases hl : sfn * std < stn * sfd
                    · have dl : decide (sfn * std < stn * sfd) = true := by simpa using hl
                      have Hs : Hid (strAt pl ws fr to k = ⟨sfn, sfd, stn, std⟩) := Lib.hid (Hraw.out.trans (if_pos hl))
                      rw [dl]
                      clear hl dl Hraw
                      have HRw := HR8
                      have Hrd := Lib.hid (reads_quad' w8 w8.heap.size (by simp) sfn sfd stn std)
                      have hsz9 := hX8.size
                      go_wp2_with (at_builtin; refine wpList_append_any _ rfl (.tmp 121) (.tmp 123) 62 rfl w.heap.size 68 i0 _ 4 32 Try.underlying62 Hi.out.1 Hi.out.2.1 Hi.out.2.2.1 Hi.out.2.2.2 rfl (by omega) _ k _ rfl (Lib.hid (World.ownsRow.alloc HRw.out _)).out _ (some ⟨w8.heap.size, 0, none⟩) 1 1 (strsV [⟨sfn, sfd, stn, std⟩]) rfl Hrd.out (strsV_one_cell _) (by unfold maxLen; omega) (by omega) (by simp; omega) ?_; intro v' w10 hown hgrow hat; have hE20 := ext_append hX8 HRw.out (Nat.le_refl _) hgrow; have H20 : Hid (w10.ownsRow w.heap.size 68 4 v' (k + 1) (strsV ((List.range (k + 1)).map (strAt pl ws fr to)))) := (by rw [strs_succ, Hs.out]; exact hown); clear hat hgrow hown)
                      go_roundw
                      case rel => exact ⟨k + 1, by omega, by go_num, hE20, H20⟩
                      case measure => simp [intOf]; omega
                    · have dl : decide (sfn * std < stn * sfd) = false := by simpa using hl
                      have Hs : Hid (strAt pl ws fr to k = ⟨0, 1, 0, 1⟩) := Lib.hid (Hraw.out.trans (if_neg hl))
                      rw [dl]
                      clear hl dl Hraw
                      go_wp2_with fail
                      refine (ratio_one 0 _ (by omega)).mono ?_
                      rintro e w13 ⟨rfl, hE13⟩
                      go_wp2_with fail
                      refine (ratio_one 0 _ (by omega)).mono ?_
                      rintro e w14 ⟨rfl, hE14⟩
                      have hY14 := hE13.trans' hE14
                      have hX14 := hX8.trans' hY14
                      have hQ9 : Quad w14 w5.heap.size 68 (.int .i64 sfn) (.int .i64 sfd) (.int .i64 stn) (.int .i64 std) := Blk.ext hQ8 hY14
                      have q0 := hQ9.cell0
                      have q1 := hQ9.cell1
                      have q2 := hQ9.cell2
                      have q3 := hQ9.cell3
                      have qf := fun i => hQ9.frozen i
                      have HR14 := Lib.hid (row_ext HR8.out hY14)
                      clear hQ7 hQ8 c1 c2 c3 c4 c5 c6 c7 c8 hE12 hE13 hE14 hY14
                      have Hq9 := Lib.hid hQ9
                      have hsz14 := hX14.size
                      clear q0 q1 q2 q3 qf hQ9
                      go_wp2_with (first | (with_reducible (refine wpList_store_quad w5.heap.size 0 1 0 1 Hq9.out rfl rfl ?_); intro w15 HW hq15; have HRw : Hid (w15.ownsRow w.heap.size 68 4 _ k (strsV ((List.range k).map (strAt pl ws fr to)))) := (by rw [HW.out]; exact Lib.hid (row_set_other (row_set_other (row_set_other (row_set_other HR14.out HvP.out 0 (.int .i64 0)) HvP.out 1 (.int .i64 1)) HvP.out 2 (.int .i64 0)) HvP.out 3 (.int .i64 1))); have hX15 : Ext w w15 := (by rw [HW.out]; exact (((hX14.setCell (show w.heap.size ≤ w5.heap.size by omega) (p := ⟨w5.heap.size, 0, none⟩) (.int .i64 0)).setCell (show w.heap.size ≤ w5.heap.size by omega) (p := ⟨w5.heap.size, 1, none⟩) (.int .i64 1)).setCell (show w.heap.size ≤ w5.heap.size by omega) (p := ⟨w5.heap.size, 2, none⟩) (.int .i64 0)).setCell (show w.heap.size ≤ w5.heap.size by omega) (p := ⟨w5.heap.size, 3, none⟩) (.int .i64 1)); have p0 := hq15.cell0; have p1 := hq15.cell1; have p2 := hq15.cell2; have p3 := hq15.cell3; have l15 := hq15.lt; clear HW HR14 hX14 Hq9) | (at_builtin; refine wpList_append_any _ rfl (.tmp 121) (.tmp 123) 62 rfl w.heap.size 68 i0 _ 4 32 Try.underlying62 Hi.out.1 Hi.out.2.1 Hi.out.2.2.1 Hi.out.2.2.2 rfl (by omega) _ k _ rfl (Lib.hid (World.ownsRow.alloc HRw.out _)).out _ (some ⟨w15.heap.size, 0, none⟩) 1 1 (strsV [⟨0, 1, 0, 1⟩]) rfl (reads_quad w15 0 1 0 1) (strsV_one_cell _) (by unfold maxLen; omega) (by omega) (by have := hX15.size; simp; omega) ?_; intro v' w10 hown hgrow hat; have hE20 := ext_append hX15 HRw.out (Nat.le_refl _) hgrow; have H20 : Hid (w10.ownsRow w.heap.size 68 4 v' (k + 1) (strsV ((List.range (k + 1)).map (strAt pl ws fr to)))) := (by rw [strs_succ, Hs.out]; exact hown); clear hat hgrow hown))
                      go_roundw
                      case rel => exact ⟨k + 1, by omega, by go_num, hE20, H20⟩
                      case measure => simp [intOf]; omega
              · obtain rfl : k = pl.length := by omega
                go_wp2_with fail
                go_ret2
                exact ⟨_, rfl, by simpa using H.out, hE⟩
          · have hd : decide (to ≤ fr) = true := by simp; omega
            have hno := okStr_lt (pl := pl) (ws := ws) (fr := fr) (to := to) (by omega)
            rw [str_bad hno, show errOf (okStr pl ws fr to) = 1 by rw [hno]; rfl]
            clear hc hcw hok he hin hft h2 hno hq
            go_enter Try.func41, Try.ntmps41
            go_wp2_with fail
            refine Hc.out.mono ?_
            rintro e w1 ⟨rfl, hE1⟩
            clear Hc
            go_wp2_with fail
            refine (Hcw.out _ (hw.ext hE1)).mono ?_
            rintro e w2 ⟨rfl, hE2⟩
            clear Hcw
            go_wp2_with fail
            refine (f57_c 30 _ 2 2 [fr, to] _ (ints_new2 _ _ _ _ _ (by simp)) (by rfl) (by omega) (by omega) (by omega)).mono ?_
            rintro e w3 ⟨rfl, hE3⟩
            rw [H2.out]
            go_wp2_with fail
            go_ret2
            exact retT_nil (hE1.trans' (hE2.trans' ((ext_alloc _ _).trans' hE3)))
        · have h2 : allIn 30 [fr, to] = false := by rw [allIn2]; exact hft
          have hno := okStr_ft (pl := pl) (ws := ws) (fr := fr) (to := to) hft
          have H2 := Lib.hid h2
          rw [str_bad hno, show errOf (okStr pl ws fr to) = 1 by rw [hno]; rfl]
          clear hc hcw hok he hin hft h2 hno hq
          go_enter Try.func41, Try.ntmps41
          go_wp2_with fail
          refine Hc.out.mono ?_
          rintro e w1 ⟨rfl, hE1⟩
          clear Hc
          go_wp2_with fail
          refine (Hcw.out _ (hw.ext hE1)).mono ?_
          rintro e w2 ⟨rfl, hE2⟩
          clear Hcw
          go_wp2_with fail
          refine (f57_c 30 _ 2 2 [fr, to] _ (ints_new2 _ _ _ _ _ (by simp)) (by rfl) (by omega) (by omega) (by omega)).mono ?_
          rintro e w3 ⟨rfl, hE3⟩
          rw [H2.out]
          go_wp2_with fail
          go_ret2
          exact retT_nil (hE1.trans' (hE2.trans' ((ext_alloc _ _).trans' hE3)))
      · simp only [hin] at hcw
        have Hcw := Lib.hid hcw
        have hno := okStr_in (pl := pl) (ws := ws) (fr := fr) (to := to) hin
        rw [str_bad hno, show errOf (okStr pl ws fr to) = 1 by rw [hno]; rfl]
        clear hc hcw hok he hin hno hq
        go_enter Try.func41, Try.ntmps41
        go_wp2_with fail
        refine Hc.out.mono ?_
        rintro e w1 ⟨rfl, hE1⟩
        clear Hc
        go_wp2_with fail
        refine (Hcw.out _ (hw.ext hE1)).mono ?_
        rintro e w2 ⟨rfl, hE2⟩
        clear Hcw
        go_wp2_with fail
        go_ret2
        exact retT_nil (hE1.trans' hE2)
    · have hne : ((ws.length : Int) != (pl.length : Int)) = true := by simp; omega
      have hno := okStr_len (pl := pl) (ws := ws) (fr := fr) (to := to) hq
      rw [str_bad hno, show errOf (okStr pl ws fr to) = 1 by rw [hno]; rfl]
      clear hc hcw hok he hno hq
      go_enter Try.func41, Try.ntmps41
      go_wp2_with fail
      refine Hc.out.mono ?_
      rintro e w1 ⟨rfl, hE1⟩
      clear Hc
      go_wp2_with fail
      go_ret2
      exact retT_nil hE1
  · have hno := okStr_line (ws := ws) (fr := fr) (to := to) hok
    rw [he] at hc
    rw [str_bad hno, show errOf (okStr pl ws fr to) = 1 by rw [hno]; rfl]
    have Hc := Lib.hid hc
    clear hc he hok hno
    go_enter Try.func41, Try.ntmps41
    go_wp2_with fail
    refine Hc.out.mono ?_
    rintro e w1 ⟨rfl, hE1⟩
    clear Hc
    go_wp2_with fail
    go_ret2
    exact retT_nil hE1
end Go.Proofs.Ytodlbgncdggimaa
