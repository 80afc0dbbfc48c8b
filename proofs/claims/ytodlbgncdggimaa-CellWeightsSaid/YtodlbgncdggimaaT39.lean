/- Contract of the reference: Stretches. -/
import Derived.Test.YtodlbgncdggimaaStr
namespace Go.Proofs.Ytodlbgncdggimaa
open Go.RowKit
attribute [local go_sem] GW.cell

theorem allIn_yes' {m : Int} {l : List Int} (h : ∀ j, j < l.length → withinB (l[j]?.getD 0) (-m) m = true) : allIn m l = true := by
  unfold allIn
  refine List.all_eq_true.2 fun z hz => ?_
  obtain ⟨j, hj, rfl⟩ := List.getElem_of_mem hz
  have := h j hj
  rwa [List.getElem?_eq_getElem hj, Option.getD_some] at this
/-- two blocks: where a stretch begins, and where it ends -/
def PairS (W : World) (B : Nat) (s : Str) : Prop := Pair W B 55 (.int .i64 s.fn) (.int .i64 s.fd) ∧ Pair W (B + 1) 55 (.int .i64 s.tn) (.int .i64 s.td)
theorem PairS.ext {X Y : World} {B : Nat} {s : Str} (h : PairS X B s) (hE : Ext X Y) : PairS Y B s := ⟨Blk.ext h.1 hE, Blk.ext h.2 hE⟩
theorem cutN_neg (pl ws : List Int) (k i : Nat) : -(pl[i]?.getD 0 * pl[i]?.getD 0 - ws[i]?.getD 0 - pl[k]?.getD 0 * pl[k]?.getD 0 + ws[k]?.getD 0) = -(cutN pl ws k i) := by unfold cutN; omega
theorem cutN_pos (pl ws : List Int) (k i : Nat) : pl[i]?.getD 0 * pl[i]?.getD 0 - ws[i]?.getD 0 - pl[k]?.getD 0 * pl[k]?.getD 0 + ws[k]?.getD 0 = cutN pl ws k i := by unfold cutN; omega
theorem cutD_opp (pl : List Int) (k i : Nat) : 2 * (pl[k]?.getD 0 - pl[i]?.getD 0) = -(cutD pl k i) := by unfold cutD; omega

set_option maxRecDepth 20000 in
set_option maxHeartbeats 16000000 in
theorem f42_c (a b : Option Addr) (n c m d : Nat) (pl ws : List Int) (fr to : Int) (w : World) (hp : Ints w a pl) (hw : Ints w b ws) (hn : pl.length = n) (hm : ws.length = m) (hlen : n ≤ 140737488355328) (hlm : m ≤ 140737488355328) :
    Calls Try.prog 42 #[.slice a n c, .slice b m d, .int .i64 fr, .int .i64 to] w (RetStrs (strsL pl ws fr to) (errOf (okStr pl ws fr to)) w) := by
  subst hn hm
  have hc := f44_c a pl.length c pl w hp rfl hlen
  rcases errOf_cases2 (okLine pl) with ⟨hok, he⟩ | ⟨hok, he⟩
  · rw [he] at hc
    have Hc := Lib.hid hc
    by_cases hq : ws.length = pl.length
    · have hne : ((ws.length : Int) != (pl.length : Int)) = false := by simp [hq]
      have hl5 := (okLine_spec hok).1
      have Hok := Lib.hid hok
      have Hq := Lib.hid hq
      obtain ⟨i0, hi0⟩ := info_parts info68
      have Hi := Lib.hid hi0
      have hm5 : ws.length ≤ 5 := by omega
      clear hc hok he hi0 hq
      go_enter Try.func42, Try.ntmps42
      go_wp2_with fail
      refine Hc.out.mono ?_
      rintro e w1 ⟨rfl, hE1⟩
      clear Hc
      go_wp2_with fail
      go_loopw [11] (fun i wr => ∃ k : Nat, k ≤ ws.length ∧ i = .int .i64 k ∧ Ext w wr ∧ Hid (∀ j, j < k → withinB (ws[j]?.getD 0) (-20000) 20000 = true)) (fun i _ => ws.length - (intOf i).toNat)
      case atStart => exact ⟨0, by omega, rfl, hE1, fun j hj => by omega⟩
      case round =>
        obtain ⟨k, hk, rfl, hE, H⟩ := hrel
        by_cases hlt : k < ws.length
        · obtain ⟨b1, o1, rfl, hb1, hc1⟩ := hw.ext hE k hlt
          have hat : ∀ v : Bool, withinB ws[k] (-20000) 20000 = v → withinB (ws[k]?.getD 0) (-20000) 20000 = v := fun v h => by rw [List.getElem?_eq_getElem hlt, Option.getD_some]; exact h
          cases hi : withinB ws[k] (-20000) 20000 with
          | true =>
            have Hi2 := Lib.hid (hat true hi)
            clear hat hi
            generalize hpa : ws[k]?.getD 0 = pa at *
            have Hpa := Lib.hid hpa
            clear hpa
            go_wp2_with fail
            refine (f60_c _ _ _ _).mono ?_
            rintro e w1 ⟨rfl, rfl⟩
            rw [Hi2.out]
            go_wp2_with fail
            go_roundw
            case rel =>
              refine ⟨k + 1, by omega, by go_num, hE, fun j hj => ?_⟩
              by_cases e : j = k
              · subst e; rw [Hpa.out]; exact Hi2.out
              · exact H.out j (by omega)
            case measure => simp [intOf]; omega
          | false =>
            have Hno := Lib.hid (okStr_in (pl := pl) (fr := fr) (to := to) (allIn_no hlt (hat false hi)))
            have Hi2 := Lib.hid (hat false hi)
            clear hat hi
            generalize ws[k]?.getD 0 = pa at *
            go_wp2_with fail
            refine (f60_c _ _ _ _).mono ?_
            rintro e w1 ⟨rfl, rfl⟩
            rw [Hi2.out]
            go_wp2_with fail
            go_ret2
            rw [str_bad Hno.out, show errOf (okStr pl ws fr to) = 1 by rw [Hno.out]; rfl]
            exact retT_nil hE
        · obtain rfl : k = ws.length := by omega
          have hin := allIn_yes' H.out
          have Hin := Lib.hid hin
          cases h1 : withinB fr (-30) 30 with
          | false =>
            have Hno := Lib.hid (okStr_ft (pl := pl) (ws := ws) (fr := fr) (to := to) (by rw [h1]; rfl))
            have H1 := Lib.hid h1
            clear h1 hin
            go_wp2_with fail
            refine (f60_c _ _ _ _).mono ?_
            rintro e w1 ⟨rfl, rfl⟩
            rw [H1.out]
            go_wp2_with fail
            go_ret2
            rw [str_bad Hno.out, show errOf (okStr pl ws fr to) = 1 by rw [Hno.out]; rfl]
            exact retT_nil hE
          | true =>
            cases h2 : withinB to (-30) 30 with
            | false =>
              have Hno := Lib.hid (okStr_ft (pl := pl) (ws := ws) (fr := fr) (to := to) (by rw [h1, h2]; rfl))
              have H1 := Lib.hid h1
              have H2 := Lib.hid h2
              clear h1 h2 hin
              go_wp2_with fail
              refine (f60_c _ _ _ _).mono ?_
              rintro e w1 ⟨rfl, rfl⟩
              rw [H1.out]
              go_wp2_with fail
              refine (f60_c _ _ _ _).mono ?_
              rintro e w1 ⟨rfl, rfl⟩
              rw [H2.out]
              go_wp2_with fail
              go_ret2
              rw [str_bad Hno.out, show errOf (okStr pl ws fr to) = 1 by rw [Hno.out]; rfl]
              exact retT_nil hE
            | true =>
              have hfb := withinB_iff.1 h1
              have htb := withinB_iff.1 h2
              by_cases hlt : fr < to
              · have hd : decide (to ≤ fr) = false := by simp; omega
                have hyes := okStr_yes Hok.out Hq.out hin (by rw [h1, h2]; rfl) hlt
                have HL : Hid (strsL pl ws fr to = (List.range pl.length).map (strAt pl ws fr to)) := Lib.hid (by unfold strsL; rw [if_pos hyes])
                have HE : Hid (errOf (okStr pl ws fr to) = 0) := Lib.hid (by rw [hyes]; rfl)
                have H1 := Lib.hid h1
                have H2 := Lib.hid h2
                clear h1 h2 hin hyes hlt
                go_wp2_with fail
                refine (f60_c _ _ _ _).mono ?_
                rintro e w1 ⟨rfl, rfl⟩
                rw [H1.out]
                go_wp2_with fail
                refine (f60_c _ _ _ _).mono ?_
                rintro e w1 ⟨rfl, rfl⟩
                rw [H2.out]
                go_wp2_with fail
                go_loopw [12, 13, 14, 15, 16, 17, 18, 19] (fun v i _ _ _ _ _ _ wr => ∃ k : Nat, k ≤ pl.length ∧ i = .int .i64 k ∧ Ext w wr ∧ Hid (wr.ownsRow w.heap.size 68 4 v k (strsV ((List.range k).map (strAt pl ws fr to))))) (fun _ i _ _ _ _ _ _ _ => pl.length - (intOf i).toNat)
                case atStart => exact ⟨0, by omega, rfl, hE, Lib.hid (World.ownsRow_nil _ _ _ _)⟩
                case round =>
                  clear H hE
                  obtain ⟨k, hk, rfl, hE, H⟩ := hrel
                  rename World => wk
                  by_cases hlk : k < pl.length
                  · have HvP := Lib.hid (row_new H.out)
                    have HvQ := Lib.hid (row_far2 H.out (Nat.le_succ wk.heap.size))
                    have P0 := Lib.hid (Pair.new wk 55 (.int .i64 fr) (.int .i64 1))
                    have hL0 := Lib.hid (Blk.alloc P0.out (.cells #[.int .i64 to, .int .i64 1] 55))
                    have hH0 : Hid (Pair ((wk.alloc (.cells #[.int .i64 fr, .int .i64 1] 55)).alloc (.cells #[.int .i64 to, .int .i64 1] 55)) (wk.heap.size + 1) 55 (.int .i64 to) (.int .i64 1)) := Lib.hid (by have := Pair.new (wk.alloc (.cells #[.int .i64 fr, .int .i64 1] 55)) 55 (.int .i64 to) (.int .i64 1); rwa [World.size_alloc] at this)
                    have hE8 := (hE.trans' (ext_alloc wk (.cells #[.int .i64 fr, .int .i64 1] 55))).trans' (ext_alloc _ (.cells #[.int .i64 to, .int .i64 1] 55))
                    have H8 := Lib.hid (World.ownsRow.alloc (World.ownsRow.alloc H.out (.cells #[.int .i64 fr, .int .i64 1] 55)) (.cells #[.int .i64 to, .int .i64 1] 55))
                    have hsz5 := hE.size
                    go_wp2_with fail
                    go_loopw [16, 17, 18, 19] (fun i _ _ _ wr => ∃ q : Nat, q ≤ pl.length ∧ i = .int .i64 q ∧ Ext w wr ∧ wk.heap.size + 1 < wr.heap.size ∧ Hid (PairS wr wk.heap.size (cutTo pl ws k ⟨fr, 1, to, 1⟩ q)) ∧ Hid (wr.ownsRow w.heap.size 68 4 _ k (strsV ((List.range k).map (strAt pl ws fr to))))) (fun i _ _ _ _ => pl.length - (intOf i).toNat)
                    case atStart => exact ⟨0, by omega, rfl, hE8, by simp, Lib.hid ⟨hL0.out, hH0.out⟩, H8⟩
                    case round =>
                      obtain ⟨q, hq, rfl, hE9, hszq, HQ, H9⟩ := hrel
                      clear H H8 hL0 hH0 P0 hE8
                      rename World => wr
                      by_cases hlq : q < pl.length
                      · by_cases heq : q = k
                        · have hcut : cutTo pl ws k ⟨fr, 1, to, 1⟩ (q + 1) = cutTo pl ws k ⟨fr, 1, to, 1⟩ q := by rw [cutTo, cut, if_pos heq]
                          have Hcut := Lib.hid hcut
                          have hb : ((q : Int) == (k : Int)) = true := by simp [heq]
                          clear hcut heq
                          go_wp2_with fail
                          go_roundw
                          case rel => exact ⟨q + 1, by omega, by go_num, hE9, hszq, by rw [Hcut.out]; exact HQ, H9⟩
                          case measure => simp [intOf]; omega
                        · have hb : ((q : Int) == (k : Int)) = false := by simp; omega
                          obtain ⟨bp, op, rfl, hbp, hc1⟩ := hp.ext hE9 q hlq
                          obtain ⟨bp2, op2, he2, hbp2, hc2⟩ := hp.ext hE9 k hlk
                          simp only [Option.some.injEq, Addr.mk.injEq] at he2
                          obtain ⟨rfl, rfl, -⟩ := he2
                          obtain ⟨bw, ow, rfl, hbw, hcw1⟩ := hw.ext hE9 k (by rw [Hq.out]; exact hlk)
                          obtain ⟨bw2, ow2, he3, hbw2, hcw2⟩ := hw.ext hE9 q (by rw [Hq.out]; exact hlq)
                          simp only [Option.some.injEq, Addr.mk.injEq] at he3
                          obtain ⟨rfl, rfl, -⟩ := he3
                          obtain ⟨⟨r1, r2⟩, r3, r4⟩ := cut_rat Hok.out Hq.out Hin.out hlk hlq heq
                          have hnb := cutN_bd Hok.out Hq.out Hin.out hlk hlq
                          have hkw1 : k < ws.length := by rw [Hq.out]; exact hlk
                          have hqw1 : q < ws.length := by rw [Hq.out]; exact hlq
                          have hkp := sq30 (line_in Hok.out hlk)
                          have hqp := sq30 (line_in Hok.out hlq)
                          have hkl := line_in Hok.out hlk
                          have hql := line_in Hok.out hlq
                          have hkw := all_in Hin.out (k := k) (by rw [Hq.out]; exact hlk)
                          have hqw := all_in Hin.out (k := q) (by rw [Hq.out]; exact hlq)
                          have hbd := cutTo_bd Hok.out Hq.out Hin.out hlk (s := ⟨fr, 1, to, 1⟩) ⟨⟨by show -50000 ≤ fr; omega, by show fr ≤ 50000; omega⟩, ⟨by show (1 : Int) ≤ 1; omega, by show (1 : Int) ≤ 120; omega⟩, ⟨by show -50000 ≤ to; omega, by show to ≤ 50000; omega⟩, ⟨by show (1 : Int) ≤ 1; omega, by show (1 : Int) ≤ 120; omega⟩⟩ q hq
                          have hN := cutN_pos pl ws k q
                          have hD : cutD pl k q = 2 * (pl[q]?.getD 0 - pl[k]?.getD 0) := rfl
                          have hD2 := cutD_opp pl k q
                          have hcut : cutTo pl ws k ⟨fr, 1, to, 1⟩ (q + 1) = cut pl ws k (cutTo pl ws k ⟨fr, 1, to, 1⟩ q) q := rfl
                          have hdn : cutD pl k q ≠ 0 := by
                            rcases Nat.lt_or_ge k q with h | h
                            · have := cutD_up Hok.out h hlq; omega
                            · have := cutD_down Hok.out (show q < k by omega) hlk; omega
                          have hbdd : -120 ≤ cutD pl k q ∧ cutD pl k q ≤ 120 := by
                            rcases Nat.lt_or_ge k q with h | h
                            · have := cutD_up Hok.out h hlq; omega
                            · have := cutD_down Hok.out (show q < k by omega) hlk; omega
                          have hupd : k < q → 0 < cutD pl k q := fun h => by have := cutD_up Hok.out h hlq; omega
                          have hdnd : q < k → 0 < -(cutD pl k q) := fun h => by have := cutD_down Hok.out h hlk; omega
                          have hro := ratN_opp (cutN pl ws k q) (cutD pl k q) hdn
                          have hrd := ratD_opp (cutN pl ws k q) (cutD pl k q) hdn
                          have hup : k < q → ∀ W, _ := fun h W => f77_c (cutN pl ws k q) (cutD pl k q) W (hupd h) (by omega) (by omega) (by omega)
                          have hdown : q < k → ∀ W, _ := fun h W => f77_c (-(cutN pl ws k q)) (-(cutD pl k q)) W (hdnd h) (by omega) (by omega) (by omega)
                          simp only [ratV_is, hro, hrd] at hup hdown
                          rw [cut, if_neg heq] at hcut
                          generalize ratN (cutN pl ws k q) (cutD pl k q) = xn at *
                          generalize ratD (cutN pl ws k q) (cutD pl k q) = xd at *
                          rw [← hD2] at hdown
                          rw [hD] at hup
                          have HN := Lib.hid hN
                          have Hcut := Lib.hid hcut
                          have Hup := Lib.hid hup
                          have Hdown := Lib.hid hdown
                          clear hcut hup hdown hN hD hD2 hro hrd hdn hbdd hupd hdnd
                          generalize hst : cutTo pl ws k ⟨fr, 1, to, 1⟩ q = st at *
                          generalize hpk : pl[k]?.getD 0 = pk at *
                          generalize hpq : pl[q]?.getD 0 = pq at *
                          generalize hwk : ws[k]?.getD 0 = vk at *
                          generalize hwq : ws[q]?.getD 0 = vq at *
                          clear hst hpk hpq hwk hwq
                          go_wp2_with fail
                          refine wp_region_ext (by kernel_rfl) (by kernel_rfl) ?_
                          repeat (go_big_quiet_step (fail))
                          refine wpQuiet_nil ?_
                          intro w6 hE10
                          have hc1 := (hE10.cell' hbp).trans hc1
                          have hc2 := (hE10.cell' hbp).trans hc2
                          have hsz6 := hE10.size
                          have hE11 := hE9.trans' hE10
                          have HQ6 := Lib.hid (HQ.out.ext hE10)
                          have H6 := Lib.hid (row_ext H9.out hE10)
                          clear hcw1 hcw2 HQ H9 hE9 hE10
                          rw [HN.out]
                          generalize cutN pl ws k q = nn at *
                          obtain ⟨sfn, sfd, stn, std⟩ := st
                          obtain ⟨⟨c1, c2⟩, ⟨c3, c4⟩, ⟨c5, c6⟩, ⟨c7, c8⟩⟩ : (-50000 ≤ sfn ∧ sfn ≤ 50000) ∧ (1 ≤ sfd ∧ sfd ≤ 120) ∧ (-50000 ≤ stn ∧ stn ≤ 50000) ∧ (1 ≤ std ∧ std ≤ 120) := hbd
                          clear HN hkp hqp hkw hqw hkw1 hqw1
                          rcases Nat.lt_or_ge k q with hkq | hkq
                          · have H77 := Lib.hid (Hup.out hkq)
                            have Hcut : Hid (cutTo pl ws k ⟨fr, 1, to, 1⟩ (q + 1) = _) := Lib.hid (Hcut.out.trans (if_pos hkq))
                            have dk : decide ((k : Int) < (q : Int)) = true := by simp; omega
                            clear Hup Hdown heq
                            go_wp2_with fail
                            refine wp_region_float (A := ?Au) 155 [true, true, true, true, true, true, true, true, true, true, true, true, false] [⟨12, 18, #[.int .i64 0, .int .i64 0], 55⟩] (by kernel_rfl) (by kernel_rfl) rfl ?hmku ?hwalku ?htailu
                            case hmku =>
                              intro m hm o ho ρ W
                              obtain rfl := List.mem_singleton.1 hm
                              obtain rfl := Option.some.inj ho
                              exact run_alloc55 ρ W _ _ _ _
                            case hwalku =>
                              intro W1 hW1
                              have g1 := (hW1.cell' (Nat.lt_of_lt_of_le hbp hsz6)).trans hc1
                              have g2 := (hW1.cell' (Nat.lt_of_lt_of_le hbp hsz6)).trans hc2
                              have k1 := Nat.lt_of_lt_of_le (Nat.lt_of_lt_of_le hbp hsz6) hW1.size
                              simp only [pickQ]
                              repeat (go_big_quiet_step ((go_at_call 77; exact quiet_ext (H77.out _))))
                              refine wpQuiet_nil ?_
                              rfl
                            case htailu =>
                              intro bs W6 hE10 hmade
                              obtain ⟨X6, hX6, hX7, hbs'⟩ := hmade _ (List.mem_singleton.2 rfl)
                              have hbs : bs 12 = X6.heap.size := hbs'
                              clear hbs' hmade
                              simp only [putAll, ptrV, List.drop_succ_cons, List.drop_zero, List.length_cons, List.length_nil, Nat.reduceAdd]
                              generalize bs 12 = B at hbs ⊢
                              have hBs : w6.heap.size ≤ B := by rw [hbs]; exact hX6.size
                              have hB5 : wk.heap.size + 1 < B := by omega
                              have hBw : w.heap.size ≤ B := by omega
                              have hP6 : Pair W6 B 55 (.int .i64 0) (.int .i64 0) := by rw [hbs]; exact Blk.ext (Pair.new X6 55 _ _) hX7
                              clear hbs hX6 hX7
                              have hQ6 : PairS W6 wk.heap.size ⟨sfn, sfd, stn, std⟩ := HQ6.out.ext hE10
                              have p0 := hP6.cell0
                              have p1 := hP6.cell1
                              have pf := fun i => hP6.frozen i
                              have hQ7 : PairS ((W6.setCell ⟨B, 0, none⟩ (.int .i64 xn)).setCell ⟨B, 1, none⟩ (.int .i64 xd)) wk.heap.size ⟨sfn, sfd, stn, std⟩ := ⟨Blk.other' (Blk.other' hQ6.1 (by omega) 0 _) (by omega) 1 _, Blk.other' (Blk.other' hQ6.2 (by omega) 0 _) (by omega) 1 _⟩
                              have hP7 : Pair ((W6.setCell ⟨B, 0, none⟩ (.int .i64 xn)).setCell ⟨B, 1, none⟩ (.int .i64 xd)) B 55 (.int .i64 xn) (.int .i64 xd) := (hP6.set0 _).set1 _
                              have q0 := hQ7.1.cell0
                              have q1 := hQ7.1.cell1
                              have q2 := hQ7.2.cell0
                              have q3 := hQ7.2.cell1
                              have t0 := hP7.cell0
                              have t1 := hP7.cell1
                              have hsm : Small xn xd stn std := by
                                have z1 := mul_bd (a := xn) (b := std) (A := 50000) (B := 120) (by omega) (by omega)
                                have z2 := mul_bd (a := stn) (b := xd) (A := 50000) (B := 120) (by omega) (by omega)
                                exact ⟨by omega, by omega⟩
                              have C79 := Lib.hid (fun W => f79_c xn xd stn std W hsm)
                              have hEa : Ext w ((W6.setCell ⟨B, 0, none⟩ (.int .i64 xn)).setCell ⟨B, 1, none⟩ (.int .i64 xd)) := ((hE11.trans' hE10).setCell (p := ⟨B, 0, none⟩) (show w.heap.size ≤ B by omega) (.int .i64 xn)).setCell (p := ⟨B, 1, none⟩) (show w.heap.size ≤ B by omega) (.int .i64 xd)
                              have hvB := row_far2 H6.out hBs
                              have HRa := Lib.hid (row_set_other (row_set_other (row_ext H6.out hE10) hvB 0 (.int .i64 xn)) hvB 1 (.int .i64 xd))
                              have hsa := hQ7.2.lt
                              have hsb := hP7.lt
                              clear H77 hnb hkl hql hsm hQ6 HQ6 H6 hvB hE10 hc1 hc2 hE11
                              go_wp2_with fail
                              clear p0 p1 pf hP6
                              generalize ((W6.setCell ⟨B, 0, none⟩ (.int .i64 xn)).setCell ⟨B, 1, none⟩ (.int .i64 xd)) = w7 at *
                              refine (C79.out _).mono ?_
                              rintro e w8 ⟨rfl, hE12⟩
                              have hQ8 : PairS w8 wk.heap.size ⟨sfn, sfd, stn, std⟩ := hQ7.ext hE12
                              have q0 := hQ8.1.cell0
                              have q1 := hQ8.1.cell1
                              have q2 := hQ8.2.cell0
                              have q3 := hQ8.2.cell1
                              have qf := fun i => hQ8.1.frozen i
                              have qf2 := fun i => hQ8.2.frozen i
                              have t0 := (hE12.cell' hsb).trans t0
                              have t1 := (hE12.cell' hsb).trans t1
                              have hE13 := Ext.trans' hEa hE12
                              have HR8 := Lib.hid (row_ext HRa.out hE12)
                              have hs8 : wk.heap.size + 1 < w8.heap.size := Nat.lt_of_lt_of_le hsa hE12.size
                              by_cases hl : xn * std < stn * xd
                              · have dl : decide (xn * std < stn * xd) = true := by simpa using hl
                                have Hn : Hid (cutTo pl ws k ⟨fr, 1, to, 1⟩ (q + 1) = ⟨sfn, sfd, xn, xd⟩) := Lib.hid (Hcut.out.trans (if_pos hl))
                                rw [dl]
                                clear hl dl Hcut
                                go_wp2_with fail
                                go_roundw
                                case rel => exact ⟨q + 1, by omega, by go_num, (hE13.setCell (show w.heap.size ≤ wk.heap.size + 1 by omega) _).setCell (show w.heap.size ≤ wk.heap.size + 1 by omega) _, by simpa using hs8, by rw [Hn.out]; exact Lib.hid ⟨Blk.other' (Blk.other' hQ8.1 (by omega) 0 _) (by omega) 1 _, (hQ8.2.set0 _).set1 _⟩, Lib.hid (row_set_other (row_set_other HR8.out HvQ.out _ _) HvQ.out _ _)⟩
                                case measure => simp [intOf]; omega
                              · have dl : decide (xn * std < stn * xd) = false := by simpa using hl
                                have Hn : Hid (cutTo pl ws k ⟨fr, 1, to, 1⟩ (q + 1) = ⟨sfn, sfd, stn, std⟩) := Lib.hid (Hcut.out.trans (if_neg hl))
                                rw [dl]
                                clear hl dl Hcut
                                go_wp2_with fail
                                go_roundw
                                case rel => exact ⟨q + 1, by omega, by go_num, hE13, hs8, by rw [Hn.out]; exact Lib.hid hQ8, HR8⟩
                                case measure => simp [intOf]; omega
                          · have H77 := Lib.hid (Hdown.out (by omega))
                            have Hcut : Hid (cutTo pl ws k ⟨fr, 1, to, 1⟩ (q + 1) = _) := Lib.hid (Hcut.out.trans (if_neg (by omega)))
                            have dk : decide ((k : Int) < (q : Int)) = false := by simp; omega
                            clear Hup Hdown heq
                            go_wp2_with fail
                            refine wp_region_float (A := ?Av) 155 [true, true, true, true, true, true, true, true, true, true, true, true, true, false] [⟨13, 19, #[.int .i64 0, .int .i64 0], 55⟩] (by kernel_rfl) (by kernel_rfl) rfl ?hmkv ?hwalkv ?htailv
                            case hmkv =>
                              intro m hm o ho ρ W
                              obtain rfl := List.mem_singleton.1 hm
                              obtain rfl := Option.some.inj ho
                              exact run_alloc55 ρ W _ _ _ _
                            case hwalkv =>
                              intro W1 hW1
                              have g1 := (hW1.cell' (Nat.lt_of_lt_of_le hbp hsz6)).trans hc1
                              have g2 := (hW1.cell' (Nat.lt_of_lt_of_le hbp hsz6)).trans hc2
                              have k1 := Nat.lt_of_lt_of_le (Nat.lt_of_lt_of_le hbp hsz6) hW1.size
                              simp only [pickQ]
                              repeat (go_big_quiet_step ((go_at_call 77; exact quiet_ext (H77.out _))))
                              refine wpQuiet_nil ?_
                              rfl
                            case htailv =>
                              intro bs W6 hE10 hmade
                              obtain ⟨X6, hX6, hX7, hbs'⟩ := hmade _ (List.mem_singleton.2 rfl)
                              have hbs : bs 13 = X6.heap.size := hbs'
                              clear hbs' hmade
                              simp only [putAll, ptrV, List.drop_succ_cons, List.drop_zero, List.length_cons, List.length_nil, Nat.reduceAdd]
                              generalize bs 13 = B at hbs ⊢
                              have hBs : w6.heap.size ≤ B := by rw [hbs]; exact hX6.size
                              have hB5 : wk.heap.size + 1 < B := by omega
                              have hBw : w.heap.size ≤ B := by omega
                              have hP6 : Pair W6 B 55 (.int .i64 0) (.int .i64 0) := by rw [hbs]; exact Blk.ext (Pair.new X6 55 _ _) hX7
                              clear hbs hX6 hX7
                              have hQ6 : PairS W6 wk.heap.size ⟨sfn, sfd, stn, std⟩ := HQ6.out.ext hE10
                              have p0 := hP6.cell0
                              have p1 := hP6.cell1
                              have pf := fun i => hP6.frozen i
                              have hQ7 : PairS ((W6.setCell ⟨B, 0, none⟩ (.int .i64 xn)).setCell ⟨B, 1, none⟩ (.int .i64 xd)) wk.heap.size ⟨sfn, sfd, stn, std⟩ := ⟨Blk.other' (Blk.other' hQ6.1 (by omega) 0 _) (by omega) 1 _, Blk.other' (Blk.other' hQ6.2 (by omega) 0 _) (by omega) 1 _⟩
                              have hP7 : Pair ((W6.setCell ⟨B, 0, none⟩ (.int .i64 xn)).setCell ⟨B, 1, none⟩ (.int .i64 xd)) B 55 (.int .i64 xn) (.int .i64 xd) := (hP6.set0 _).set1 _
                              have q0 := hQ7.1.cell0
                              have q1 := hQ7.1.cell1
                              have q2 := hQ7.2.cell0
                              have q3 := hQ7.2.cell1
                              have t0 := hP7.cell0
                              have t1 := hP7.cell1
                              have hsm : Small sfn sfd xn xd := by
                                have z1 := mul_bd (a := sfn) (b := xd) (A := 50000) (B := 120) (by omega) (by omega)
                                have z2 := mul_bd (a := xn) (b := sfd) (A := 50000) (B := 120) (by omega) (by omega)
                                exact ⟨by omega, by omega⟩
                              have C79 := Lib.hid (fun W => f79_c sfn sfd xn xd W hsm)
                              have hEa : Ext w ((W6.setCell ⟨B, 0, none⟩ (.int .i64 xn)).setCell ⟨B, 1, none⟩ (.int .i64 xd)) := ((hE11.trans' hE10).setCell (p := ⟨B, 0, none⟩) (show w.heap.size ≤ B by omega) (.int .i64 xn)).setCell (p := ⟨B, 1, none⟩) (show w.heap.size ≤ B by omega) (.int .i64 xd)
                              have hvB := row_far2 H6.out hBs
                              have HRa := Lib.hid (row_set_other (row_set_other (row_ext H6.out hE10) hvB 0 (.int .i64 xn)) hvB 1 (.int .i64 xd))
                              have hsa := hQ7.2.lt
                              have hsb := hP7.lt
                              clear H77 hnb hkl hql hsm hQ6 HQ6 H6 hvB hE10 hc1 hc2 hE11
                              go_wp2_with fail
                              clear p0 p1 pf hP6
                              generalize ((W6.setCell ⟨B, 0, none⟩ (.int .i64 xn)).setCell ⟨B, 1, none⟩ (.int .i64 xd)) = w7 at *
                              refine (C79.out _).mono ?_
                              rintro e w8 ⟨rfl, hE12⟩
                              have hQ8 : PairS w8 wk.heap.size ⟨sfn, sfd, stn, std⟩ := hQ7.ext hE12
                              have q0 := hQ8.1.cell0
                              have q1 := hQ8.1.cell1
                              have q2 := hQ8.2.cell0
                              have q3 := hQ8.2.cell1
                              have qf := fun i => hQ8.1.frozen i
                              have qf2 := fun i => hQ8.2.frozen i
                              have t0 := (hE12.cell' hsb).trans t0
                              have t1 := (hE12.cell' hsb).trans t1
                              have hE13 := Ext.trans' hEa hE12
                              have HR8 := Lib.hid (row_ext HRa.out hE12)
                              have hs8 : wk.heap.size + 1 < w8.heap.size := Nat.lt_of_lt_of_le hsa hE12.size
                              by_cases hl : sfn * xd < xn * sfd
                              · have dl : decide (sfn * xd < xn * sfd) = true := by simpa using hl
                                have Hn : Hid (cutTo pl ws k ⟨fr, 1, to, 1⟩ (q + 1) = ⟨xn, xd, stn, std⟩) := Lib.hid (Hcut.out.trans (if_pos hl))
                                rw [dl]
                                clear hl dl Hcut
                                go_wp2_with fail
                                go_roundw
                                case rel => exact ⟨q + 1, by omega, by go_num, (hE13.setCell (show w.heap.size ≤ wk.heap.size by omega) _).setCell (show w.heap.size ≤ wk.heap.size by omega) _, by simpa using hs8, by rw [Hn.out]; exact Lib.hid ⟨(hQ8.1.set0 _).set1 _, Blk.other' (Blk.other' hQ8.2 (by omega) 0 _) (by omega) 1 _⟩, Lib.hid (row_set_other (row_set_other HR8.out HvP.out _ _) HvP.out _ _)⟩
                                case measure => simp [intOf]; omega
                              · have dl : decide (sfn * xd < xn * sfd) = false := by simpa using hl
                                have Hn : Hid (cutTo pl ws k ⟨fr, 1, to, 1⟩ (q + 1) = ⟨sfn, sfd, stn, std⟩) := Lib.hid (Hcut.out.trans (if_neg hl))
                                rw [dl]
                                clear hl dl Hcut
                                go_wp2_with fail
                                go_roundw
                                case rel => exact ⟨q + 1, by omega, by go_num, hE13, hs8, by rw [Hn.out]; exact Lib.hid hQ8, HR8⟩
                                case measure => simp [intOf]; omega
                      · obtain rfl : q = pl.length := by omega
                        have Hraw : Hid (strAt pl ws fr to k = if (cutTo pl ws k ⟨fr, 1, to, 1⟩ pl.length).fn * (cutTo pl ws k ⟨fr, 1, to, 1⟩ pl.length).td < (cutTo pl ws k ⟨fr, 1, to, 1⟩ pl.length).tn * (cutTo pl ws k ⟨fr, 1, to, 1⟩ pl.length).fd then cutTo pl ws k ⟨fr, 1, to, 1⟩ pl.length else ⟨0, 1, 0, 1⟩) := Lib.hid rfl
                        have hbd := cutTo_bd Hok.out Hq.out Hin.out hlk (s := ⟨fr, 1, to, 1⟩) ⟨⟨by show -50000 ≤ fr; omega, by show fr ≤ 50000; omega⟩, ⟨by show (1 : Int) ≤ 1; omega, by show (1 : Int) ≤ 120; omega⟩, ⟨by show -50000 ≤ to; omega, by show to ≤ 50000; omega⟩, ⟨by show (1 : Int) ≤ 1; omega, by show (1 : Int) ≤ 120; omega⟩⟩ pl.length (Nat.le_refl _)
                        generalize cutTo pl ws k ⟨fr, 1, to, 1⟩ pl.length = st at *
                        obtain ⟨sfn, sfd, stn, std⟩ := st
                        obtain ⟨⟨c1, c2⟩, ⟨c3, c4⟩, ⟨c5, c6⟩, ⟨c7, c8⟩⟩ : (-50000 ≤ sfn ∧ sfn ≤ 50000) ∧ (1 ≤ sfd ∧ sfd ≤ 120) ∧ (-50000 ≤ stn ∧ stn ≤ 50000) ∧ (1 ≤ std ∧ std ≤ 120) := hbd
                        have hQ7 := HQ.out
                        have q0 := hQ7.1.cell0
                        have q1 := hQ7.1.cell1
                        have q2 := hQ7.2.cell0
                        have q3 := hQ7.2.cell1
                        have hsm : Small sfn sfd stn std := by
                          have z1 := mul_bd (a := sfn) (b := std) (A := 50000) (B := 120) (by omega) (by omega)
                          have z2 := mul_bd (a := stn) (b := sfd) (A := 50000) (B := 120) (by omega) (by omega)
                          exact ⟨by omega, by omega⟩
                        have C79 := Lib.hid (fun W => f79_c sfn sfd stn std W hsm)
                        clear hsm HQ
                        go_wp2_with fail
                        refine (C79.out _).mono ?_
                        rintro e w8 ⟨rfl, hE12⟩
                        have hQ8 := hQ7.ext hE12
                        have q0 := hQ8.1.cell0
                        have q1 := hQ8.1.cell1
                        have q2 := hQ8.2.cell0
                        have q3 := hQ8.2.cell1
                        have hX8 := hE9.trans' hE12
                        have HR8 := Lib.hid (row_ext H9.out hE12)
                        have hsz9 := hX8.size
                        have hs8 : wk.heap.size + 1 < w8.heap.size := Nat.lt_of_lt_of_le hszq hE12.size
                        clear hE12 hQ7 hQ8 H9
                        by_cases hl : sfn * std < stn * sfd
                        · have dl : decide (sfn * std < stn * sfd) = true := by simpa using hl
                          have Hs : Hid (strAt pl ws fr to k = ⟨sfn, sfd, stn, std⟩) := Lib.hid (Hraw.out.trans (if_pos hl))
                          rw [dl]
                          clear hl dl Hraw
                          have Hrd := Lib.hid (reads_quad w8 sfn sfd stn std)
                          go_wp2_with (at_builtin; refine wpList_append_any _ rfl (.tmp 142) (.tmp 146) 62 rfl w.heap.size 68 i0 _ 4 32 Try.underlying62 Hi.out.1 Hi.out.2.1 Hi.out.2.2.1 Hi.out.2.2.2 rfl (by omega) _ k _ rfl (Lib.hid (World.ownsRow.alloc HR8.out _)).out _ (some ⟨w8.heap.size, 0, none⟩) 1 1 (strsV [⟨sfn, sfd, stn, std⟩]) rfl Hrd.out (strsV_one_cell _) (by unfold maxLen; omega) (by omega) (by simp; omega) ?_; intro v' w10 hown hgrow hat; have hE20 := ext_append hX8 HR8.out (Nat.le_refl _) hgrow; have H20 : Hid (w10.ownsRow w.heap.size 68 4 v' (k + 1) (strsV ((List.range (k + 1)).map (strAt pl ws fr to)))) := (by rw [strs_succ, Hs.out]; exact hown); clear hat hgrow hown)
                          go_roundw
                          case rel => exact ⟨k + 1, by omega, by go_num, hE20, H20⟩
                          case measure => simp [intOf]; omega
                        · have dl : decide (sfn * std < stn * sfd) = false := by simpa using hl
                          have Hs : Hid (strAt pl ws fr to k = ⟨0, 1, 0, 1⟩) := Lib.hid (Hraw.out.trans (if_neg hl))
                          rw [dl]
                          clear hl dl Hraw
                          have Hrd := Lib.hid (reads_quad w8 0 1 0 1)
                          go_wp2_with (at_builtin; refine wpList_append_any _ rfl (.tmp 148) (.tmp 152) 62 rfl w.heap.size 68 i0 _ 4 32 Try.underlying62 Hi.out.1 Hi.out.2.1 Hi.out.2.2.1 Hi.out.2.2.2 rfl (by omega) _ k _ rfl (Lib.hid (World.ownsRow.alloc HR8.out _)).out _ (some ⟨w8.heap.size, 0, none⟩) 1 1 (strsV [⟨0, 1, 0, 1⟩]) rfl Hrd.out (strsV_one_cell _) (by unfold maxLen; omega) (by omega) (by simp; omega) ?_; intro v' w10 hown hgrow hat; have hE20 := ext_append hX8 HR8.out (Nat.le_refl _) hgrow; have H20 : Hid (w10.ownsRow w.heap.size 68 4 v' (k + 1) (strsV ((List.range (k + 1)).map (strAt pl ws fr to)))) := (by rw [strs_succ, Hs.out]; exact hown); clear hat hgrow hown)
                          go_roundw
                          case rel => exact ⟨k + 1, by omega, by go_num, hE20, H20⟩
                          case measure => simp [intOf]; omega
                  · obtain rfl : k = pl.length := by omega
                    go_wp2_with fail
                    go_ret2
                    rw [HL.out, HE.out]
                    exact ⟨_, rfl, by simpa using H.out, hE⟩
              · have hd : decide (to ≤ fr) = true := by simp; omega
                have Hno := Lib.hid (okStr_lt (pl := pl) (ws := ws) (fr := fr) (to := to) (by omega))
                have H1 := Lib.hid h1
                have H2 := Lib.hid h2
                clear h1 h2 hin
                go_wp2_with fail
                refine (f60_c _ _ _ _).mono ?_
                rintro e w1 ⟨rfl, rfl⟩
                rw [H1.out]
                go_wp2_with fail
                refine (f60_c _ _ _ _).mono ?_
                rintro e w1 ⟨rfl, rfl⟩
                rw [H2.out]
                go_wp2_with fail
                go_ret2
                rw [str_bad Hno.out, show errOf (okStr pl ws fr to) = 1 by rw [Hno.out]; rfl]
                exact retT_nil hE
    · have hne : ((ws.length : Int) != (pl.length : Int)) = true := by simp; omega
      have hno := okStr_len (pl := pl) (ws := ws) (fr := fr) (to := to) hq
      rw [str_bad hno, show errOf (okStr pl ws fr to) = 1 by rw [hno]; rfl]
      clear hc hok he hno hq
      go_enter Try.func42, Try.ntmps42
      go_wp2_with fail
      refine Hc.out.mono ?_
      rintro e w1 ⟨rfl, hE1⟩
      clear Hc
      go_wp2_with fail
      go_ret2
      exact retT_nil hE1
  · have hno := okStr_line (ws := ws) (fr := fr) (to := to) hok
    rw [str_bad hno, show errOf (okStr pl ws fr to) = 1 by rw [hno]; rfl]
    rw [he] at hc
    have Hc := Lib.hid hc
    clear hc hok he hno
    go_enter Try.func42, Try.ntmps42
    go_wp2_with fail
    refine Hc.out.mono ?_
    rintro e w1 ⟨rfl, hE1⟩
    clear Hc
    go_wp2_with fail
    go_ret2
    exact retT_nil hE1
end Go.Proofs.Ytodlbgncdggimaa
