/- CellStretches: the law's walk. -/
import Derived.Test.YtodlbgncdggimaaP8
import Derived.Test.YtodlbgncdggimaaT34
import Derived.Test.YtodlbgncdggimaaT39
import Derived.Test.YtodlbgncdggimaaT40
import Derived.Test.YtodlbgncdggimaaLGro
namespace Go.Proofs.Ytodlbgncdggimaa
open Go.RowKit
attribute [local go_sem] GW.cell

theorem retStrs_read {L : List Str} {err : Int} {w w' : World} {e : Ending} (h : RetStrs L err w e w') : ∃ a c, e = .returned (.tuple #[.slice a L.length c, .int .i64 err]) ∧ Strs w' a L ∧ Ext w w' := by
  obtain ⟨v, rfl, hr, hE⟩ := h
  obtain ⟨a, c, rfl, hs⟩ := strs_of_row hr
  exact ⟨a, c, rfl, hs, hE⟩
theorem at_yes {pl ws : List Int} {fr to : Int} {m : Nat} (h : (strAt pl ws fr to m).fn = (strAt pl ws fr to m).tn ∧ (strAt pl ws fr to m).fd = (strAt pl ws fr to m).td) : atS pl ws fr to (m + 1) = atS pl ws fr to m := by rw [atS, if_pos h]
theorem at_no {pl ws : List Int} {fr to : Int} {m : Nat} (h : ¬ ((strAt pl ws fr to m).fn = (strAt pl ws fr to m).tn ∧ (strAt pl ws fr to m).fd = (strAt pl ws fr to m).td)) : atS pl ws fr to (m + 1) = ((strAt pl ws fr to m).tn, (strAt pl ws fr to m).td) := by rw [atS, if_neg h]

set_option maxHeartbeats 8000000 in
theorem lawStretches (w : World) (a : Option Addr) (n c : Nat) (pl : List Int) (hp : Ints w a pl) (hn : pl.length = n) (b : Option Addr) (m d : Nat) (ws : List Int) (hw : Ints w b ws) (hm : ws.length = m) (fr to : Int) :
    Calls Try.prog 11 #[.agg #[.slice a n c, .slice b m d, .int .i64 fr, .int .i64 to]] w fun e w' => e = .returned (.bool true) ∧ Ext w w' := by
  subst hn hm
  have hEb := ext_alloc w (.cells #[.slice a pl.length c, .slice b ws.length d, .int .i64 fr, .int .i64 to] 61)
  have hb0 : (w.alloc (.cells #[.slice a pl.length c, .slice b ws.length d, .int .i64 fr, .int .i64 to] 61)).cell? ⟨w.heap.size, 0, none⟩ = some (.slice a pl.length c) := by simp
  have hb1 : (w.alloc (.cells #[.slice a pl.length c, .slice b ws.length d, .int .i64 fr, .int .i64 to] 61)).cell? ⟨w.heap.size, 1, none⟩ = some (.slice b ws.length d) := by simp
  have hb2 : (w.alloc (.cells #[.slice a pl.length c, .slice b ws.length d, .int .i64 fr, .int .i64 to] 61)).cell? ⟨w.heap.size, 2, none⟩ = some (.int .i64 fr) := by simp
  have hb3 : (w.alloc (.cells #[.slice a pl.length c, .slice b ws.length d, .int .i64 fr, .int .i64 to] 61)).cell? ⟨w.heap.size, 3, none⟩ = some (.int .i64 to) := by simp
  have hsz : w.heap.size < (w.alloc (.cells #[.slice a pl.length c, .slice b ws.length d, .int .i64 fr, .int .i64 to] 61)).heap.size := by simp
  by_cases h200 : 200 < pl.length
  · have hd2 : decide (200 < (pl.length : Int)) = true := by simp; omega
    clear hb0 hb1 hb2 hb3 hsz
    go_enter Try.func11, Try.ntmps11
    go_wp2_with fail
    refine (f24_c _ _ _ _).mono ?_
    rintro e w1 ⟨rfl, rfl⟩
    rw [hd2]
    go_wp2_with fail
    refine (f17_c _).mono ?_
    rintro e w1 ⟨rfl, hE⟩
    go_wp2_with fail
    go_ret
    exact ⟨rfl, hEb.trans' hE⟩
  have hd1 : decide (200 < (pl.length : Int)) = false := by simp; omega
  by_cases h201 : 200 < ws.length
  · have hd2 : decide (200 < (ws.length : Int)) = true := by simp; omega
    clear hb2 hb3 hsz
    go_enter Try.func11, Try.ntmps11
    go_wp2_with fail
    refine (f24_c _ _ _ _).mono ?_
    rintro e w1 ⟨rfl, rfl⟩
    rw [hd1]
    go_wp2_with fail
    refine (f24_c _ _ _ _).mono ?_
    rintro e w1 ⟨rfl, rfl⟩
    rw [hd2]
    go_wp2_with fail
    refine (f17_c _).mono ?_
    rintro e w1 ⟨rfl, hE⟩
    go_wp2_with fail
    go_ret
    exact ⟨rfl, hEb.trans' hE⟩
  have hd2 : decide (200 < (ws.length : Int)) = false := by simp; omega
  have hlen : pl.length ≤ 140737488355328 := by omega
  have hlm : ws.length ≤ 140737488355328 := by omega
  have Heb := Lib.hid hEb
  have Hd1 := Lib.hid hd1
  have Hd2 := Lib.hid hd2
  have Hb0 := Lib.hid hb0
  have Hb1 := Lib.hid hb1
  have Hb2 := Lib.hid hb2
  have Hb3 := Lib.hid hb3
  have Hsz := Lib.hid hsz
  have h41 := fun W (h : Ints W a pl) (k : Ints W b ws) => f41_c a b pl.length c ws.length d pl ws fr to W h k rfl rfl hlen hlm
  have h42 := fun W (h : Ints W a pl) (k : Ints W b ws) => f42_c a b pl.length c ws.length d pl ws fr to W h k rfl rfl hlen hlm
  have h43 := fun W (h : Ints W a pl) => f43_c a pl.length c pl W h rfl hlen
  have h44 := fun W (h : Ints W a pl) => f44_c a pl.length c pl W h rfl hlen
  generalize hO : errOf (okLine pl) = O at *
  have hO0 : (O != O) = false := by simp
  have H43 := Lib.hid h43
  have H44 := Lib.hid h44
  rcases errOf_cases2 (okStr pl ws fr to) with ⟨hok, he⟩ | ⟨hok, he⟩
  · obtain ⟨⟨⟨hlk, -⟩, -⟩, -, hft⟩ : ((okLine pl = true ∧ True) ∧ True) ∧ True ∧ fr < to := by
      simp only [okStr, Bool.and_eq_true, decide_eq_true_eq] at hok
      exact ⟨⟨⟨hok.1, trivial⟩, trivial⟩, trivial, hok.2.2.2⟩
    have hL : strsL pl ws fr to = (List.range pl.length).map (strAt pl ws fr to) := by unfold strsL; rw [if_pos hok]
    have hl5 := (okLine_spec hlk).1
    have hend := at_end (ws := ws) (fr := fr) (to := to) hlk hl5.1 hft
    have hat : ∀ k, k < pl.length → _ := fun k hk => (at_upto (ws := ws) (fr := fr) (to := to) hlk k (by omega)).2.2 hk
    have hL1 : (strsL pl ws fr to).length = pl.length := by rw [hL]; simp
    have hLk : ∀ k (h : k < (strsL pl ws fr to).length), (strsL pl ws fr to)[k] = strAt pl ws fr to k := by rw [hL]; intro k h; simp
    rw [he] at h41 h42
    have hL5 : (strsL pl ws fr to).length ≤ 140737488355328 := by omega
    generalize strsL pl ws fr to = L at *
    have H41 := Lib.hid h41
    have H42 := Lib.hid h42
    have Hend := Lib.hid hend
    have Hat := Lib.hid hat
    have HL1 := Lib.hid hL1
    have HLk := Lib.hid hLk
    clear hEb hd1 hd2 hb0 hb1 hb2 hb3 hsz h41 h42 h43 h44 he hok hO h200 h201 hL hend hat hL1 hLk
    go_enter Try.func11, Try.ntmps11
    go_wp2_with fail
    refine (f24_c _ _ _ _).mono ?_
    rintro e w1 ⟨rfl, rfl⟩
    rw [Hd1.out]
    have hb1 := Hb1.out
    go_wp2_with fail
    refine (f24_c _ _ _ _).mono ?_
    rintro e w1 ⟨rfl, rfl⟩
    rw [Hd2.out]
    have hb0 := Hb0.out
    have hb2 := Hb2.out
    have hb3 := Hb3.out
    go_wp2_with fail
    generalize (w.alloc (.cells #[.slice a pl.length c, .slice b ws.length d, .int .i64 fr, .int .i64 to] 61)) = w0 at *
    refine (H41.out _ (hp.ext Heb.out) (hw.ext Heb.out)).mono ?_
    intro e w1 hR
    obtain ⟨a1, c1, rfl, hS1, hE1⟩ := retStrs_read hR
    clear hR hb0 hb1 hb2 hb3
    have g0 := (hE1.cell' Hsz.out).trans Hb0.out
    have g1 := (hE1.cell' Hsz.out).trans Hb1.out
    have g2 := (hE1.cell' Hsz.out).trans Hb2.out
    have g3 := (hE1.cell' Hsz.out).trans Hb3.out
    clear H41
    go_wp2_with fail
    refine (H42.out _ (hp.ext (Heb.out.trans' hE1)) (hw.ext (Heb.out.trans' hE1))).mono ?_
    intro e w2 hR
    obtain ⟨a2, c2, rfl, hS2, hE2'⟩ := retStrs_read hR
    have hE2 := hE1.trans' hE2'
    have hS1 := hS1.ext hE2'
    clear hR g0 g1 g2 g3 H42
    have g0 := (hE2.cell' Hsz.out).trans Hb0.out
    have hsz2 := Nat.lt_of_lt_of_le Hsz.out hE2.size
    have H43 := Lib.hid (fun (x : GW w2) => H43.out x.world (hp.ext ((Heb.out.trans' hE2).trans' x.ext)))
    have H44 := Lib.hid (fun (x : GW w2) => H44.out x.world (hp.ext ((Heb.out.trans' hE2).trans' x.ext)))
    have H45 := Lib.hid (fun (x : GW w2) => f45_c a1 a2 _ c1 c2 L x.world (hS1.ext x.ext) (hS2.ext x.ext) rfl hL5)
    go_wp2_with fail
    refine wp_region_ext (by kernel_rfl) (by kernel_rfl) ?_
    repeat (go_big_quiet_step (first | (go_at_call 43; exact quiet_ext (H43.out _)) | (go_at_call 44; exact quiet_ext (H44.out _)) | (go_at_call 45; exact quiet_ext (H45.out _))))
    refine wpQuiet_nil ?_
    intro w3 hE3'
    have hE3 := hE2.trans' hE3'
    clear H43 H44 H45 g0
    have g2 := (hE3.cell' Hsz.out).trans Hb2.out
    have hS3 := hS1.ext hE3'
    have hsz3 := Nat.lt_of_lt_of_le Hsz.out hE3.size
    have Hp0 : Hid (Pair (w3.alloc (.cells #[.int .i64 fr, .int .i64 1] 55)) w3.heap.size 55 (.int .i64 (atS pl ws fr to 0).1) (.int .i64 (atS pl ws fr to 0).2)) := Lib.hid (Pair.new w3 55 _ _)
    clear hS1 hS2
    go_wp2_with fail
    go_loopw [8] (fun i wr => ∃ k : Nat, k ≤ L.length ∧ i = .int .i64 k ∧ Ext w3 wr ∧ Hid (Pair wr w3.heap.size 55 (.int .i64 (atS pl ws fr to k).1) (.int .i64 (atS pl ws fr to k).2))) (fun i _ => L.length - (intOf i).toNat)
    case atStart => exact ⟨0, by omega, rfl, ext_alloc _ _, Hp0⟩
    case round =>
      obtain ⟨k, hk, rfl, hE4, HP⟩ := hrel
      clear Hp0
      by_cases hlt : k < L.length
      · obtain ⟨b1, o1, rfl, hb1, s1, s2, s3, s4⟩ := hS3.ext hE4 k hlt
        rw [HLk.out k hlt] at s1 s2 s3 s4
        have hat := Hat.out k (by rw [← HL1.out]; exact hlt)
        have Hyes := Lib.hid (fun h => at_yes (pl := pl) (ws := ws) (fr := fr) (to := to) (m := k) h)
        have Hno := Lib.hid (fun h => at_no (pl := pl) (ws := ws) (fr := fr) (to := to) (m := k) h)
        have hP := HP.out
        generalize strAt pl ws fr to k = S at *
        generalize atS pl ws fr to k = A at *
        obtain ⟨fn, fd, tn, td⟩ := S
        obtain ⟨A1, A2⟩ := A
        dsimp only at *
        by_cases heq : fn = tn ∧ fd = td
        · obtain ⟨rfl, rfl⟩ := heq
          have Hy := Lib.hid (Hyes.out ⟨rfl, rfl⟩)
          clear Hyes Hno hat hP
          go_wp2_with fail
          refine wp_region_ext (by kernel_rfl) (by kernel_rfl) ?_
          repeat (go_big_quiet_step (fail))
          refine wpQuiet_nil ?_
          intro w5 hE5
          have HP5 : Hid (Pair w5 w3.heap.size 55 (.int .i64 A1) (.int .i64 A2)) := Lib.hid (Blk.ext HP.out hE5)
          clear s1 s2 s3 s4
          go_wp2_with fail
          go_roundw
          case rel => exact ⟨k + 1, by omega, by go_num, hE4.trans' hE5, by rw [Hy.out]; exact HP5⟩
          case measure => simp [intOf]; omega
        · obtain ⟨rfl, rfl⟩ : fn = A1 ∧ fd = A2 := by
            rcases hat with h | h
            · exact absurd h heq
            · exact h
          have HN2 : Hid (atS pl ws fr to (k + 1) = (tn, td)) := Lib.hid (Hno.out heq)
          clear Hno
          clear Hyes hat HP
          by_cases hf : fn = tn
          · subst hf
            have hfd : ¬ fd = td := fun h => heq ⟨rfl, h⟩
            clear heq
            go_wp2_with fail
            refine wp_region_ext (by kernel_rfl) (by kernel_rfl) ?_
            repeat (go_big_quiet_step (fail))
            refine wpQuiet_nil ?_
            intro w5 hE5
            have hP5 : Pair w5 w3.heap.size 55 (.int .i64 fn) (.int .i64 fd) := Blk.ext hP hE5
            have p0 := hP5.cell0
            have p1 := hP5.cell1
            have d1 := (hE5.cell' hb1).trans s1
            have d2 := (hE5.cell' hb1).trans s2
            have d3 := (hE5.cell' hb1).trans s3
            have d4 := (hE5.cell' hb1).trans s4
            have k5 := Nat.lt_of_lt_of_le hb1 hE5.size
            have l5 := hP5.lt
            go_wp2_with fail
            refine wp_region_ext (by kernel_rfl) (by kernel_rfl) ?_
            repeat (go_big_quiet_step (fail))
            refine wpQuiet_nil ?_
            intro w6 hE6
            have hP6 : Pair w6 w3.heap.size 55 (.int .i64 fn) (.int .i64 fd) := Blk.ext hP5 hE6
            have p0 := hP6.cell0
            have p1 := hP6.cell1
            have pf := fun i => hP6.frozen i
            have e3 := (hE6.cell' k5).trans d3
            have e4 := (hE6.cell' k5).trans d4
            have k6 := Nat.lt_of_lt_of_le k5 hE6.size
            have hE7 := (hE4.trans' hE5).trans' hE6
            clear d1 d2 d3 d4 s1 s2 s3 s4
            go_wp2_with fail
            go_roundw
            case rel => exact ⟨k + 1, by omega, by go_num, (hE7.setCell (Nat.le_refl _) _).setCell (Nat.le_refl _) _, by rw [HN2.out]; exact Lib.hid ((hP6.set0 _).set1 _)⟩
            case measure => simp [intOf]; omega
          · clear heq
            go_wp2_with fail
            refine wp_region_ext (by kernel_rfl) (by kernel_rfl) ?_
            repeat (go_big_quiet_step (fail))
            refine wpQuiet_nil ?_
            intro w5 hE5
            have hP5 : Pair w5 w3.heap.size 55 (.int .i64 fn) (.int .i64 fd) := Blk.ext hP hE5
            have p0 := hP5.cell0
            have p1 := hP5.cell1
            have d1 := (hE5.cell' hb1).trans s1
            have d2 := (hE5.cell' hb1).trans s2
            have d3 := (hE5.cell' hb1).trans s3
            have d4 := (hE5.cell' hb1).trans s4
            have k5 := Nat.lt_of_lt_of_le hb1 hE5.size
            have l5 := hP5.lt
            go_wp2_with fail
            refine wp_region_ext (by kernel_rfl) (by kernel_rfl) ?_
            repeat (go_big_quiet_step (fail))
            refine wpQuiet_nil ?_
            intro w6 hE6
            have hP6 : Pair w6 w3.heap.size 55 (.int .i64 fn) (.int .i64 fd) := Blk.ext hP5 hE6
            have p0 := hP6.cell0
            have p1 := hP6.cell1
            have pf := fun i => hP6.frozen i
            have e3 := (hE6.cell' k5).trans d3
            have e4 := (hE6.cell' k5).trans d4
            have k6 := Nat.lt_of_lt_of_le k5 hE6.size
            have hE7 := (hE4.trans' hE5).trans' hE6
            clear d1 d2 d3 d4 s1 s2 s3 s4
            go_wp2_with fail
            go_roundw
            case rel => exact ⟨k + 1, by omega, by go_num, (hE7.setCell (Nat.le_refl _) _).setCell (Nat.le_refl _) _, by rw [HN2.out]; exact Lib.hid ((hP6.set0 _).set1 _)⟩
            case measure => simp [intOf]; omega
      · obtain rfl : k = L.length := by omega
        have hP := HP.out
        rw [HL1.out, Hend.out] at hP
        have p0 := hP.cell0
        have p1 := hP.cell1
        have hE8 := hE3.trans' hE4
        have g3 := (hE8.cell' Hsz.out).trans Hb3.out
        have hsz4 := Nat.lt_of_lt_of_le Hsz.out hE8.size
        clear g2 hP HP
        dsimp only at p0 p1
        go_wp2_with fail
        refine (f17_c _).mono ?_
        rintro e w9 ⟨rfl, hE9⟩
        go_wp2_with fail
        go_ret
        exact ⟨rfl, Heb.out.trans' (hE8.trans' hE9)⟩
  · rw [he] at h41 h42
    have hL5 : (strsL pl ws fr to).length ≤ 140737488355328 := by rw [str_bad hok]; simp
    generalize strsL pl ws fr to = L at *
    have H41 := Lib.hid h41
    have H42 := Lib.hid h42
    clear hEb hd1 hd2 hb0 hb1 hb2 hb3 hsz h41 h42 h43 h44 he hok hO h200 h201
    go_enter Try.func11, Try.ntmps11
    go_wp2_with fail
    refine (f24_c _ _ _ _).mono ?_
    rintro e w1 ⟨rfl, rfl⟩
    rw [Hd1.out]
    have hb1 := Hb1.out
    go_wp2_with fail
    refine (f24_c _ _ _ _).mono ?_
    rintro e w1 ⟨rfl, rfl⟩
    rw [Hd2.out]
    have hb0 := Hb0.out
    have hb2 := Hb2.out
    have hb3 := Hb3.out
    go_wp2_with fail
    generalize (w.alloc (.cells #[.slice a pl.length c, .slice b ws.length d, .int .i64 fr, .int .i64 to] 61)) = w0 at *
    refine (H41.out _ (hp.ext Heb.out) (hw.ext Heb.out)).mono ?_
    intro e w1 hR
    obtain ⟨a1, c1, rfl, hS1, hE1⟩ := retStrs_read hR
    clear hR hb0 hb1 hb2 hb3
    have g0 := (hE1.cell' Hsz.out).trans Hb0.out
    have g1 := (hE1.cell' Hsz.out).trans Hb1.out
    have g2 := (hE1.cell' Hsz.out).trans Hb2.out
    have g3 := (hE1.cell' Hsz.out).trans Hb3.out
    clear H41
    go_wp2_with fail
    refine (H42.out _ (hp.ext (Heb.out.trans' hE1)) (hw.ext (Heb.out.trans' hE1))).mono ?_
    intro e w2 hR
    obtain ⟨a2, c2, rfl, hS2, hE2'⟩ := retStrs_read hR
    have hE2 := hE1.trans' hE2'
    have hS1 := hS1.ext hE2'
    clear hR g0 g1 g2 g3 H42
    have g0 := (hE2.cell' Hsz.out).trans Hb0.out
    have hsz2 := Nat.lt_of_lt_of_le Hsz.out hE2.size
    have H43 := Lib.hid (fun (x : GW w2) => H43.out x.world (hp.ext ((Heb.out.trans' hE2).trans' x.ext)))
    have H44 := Lib.hid (fun (x : GW w2) => H44.out x.world (hp.ext ((Heb.out.trans' hE2).trans' x.ext)))
    have H45 := Lib.hid (fun (x : GW w2) => f45_c a1 a2 _ c1 c2 L x.world (hS1.ext x.ext) (hS2.ext x.ext) rfl hL5)
    go_wp2_with fail
    refine wp_region_ext (by kernel_rfl) (by kernel_rfl) ?_
    repeat (go_big_quiet_step (first | (go_at_call 43; exact quiet_ext (H43.out _)) | (go_at_call 44; exact quiet_ext (H44.out _)) | (go_at_call 45; exact quiet_ext (H45.out _))))
    refine wpQuiet_nil ?_
    intro w3 hE3'
    have hE3 := hE2.trans' hE3'
    clear H43 H44 H45 g0
    go_wp2_with fail
    refine (f17_c _).mono ?_
    rintro e w9 ⟨rfl, hE9⟩
    go_wp2_with fail
    go_ret
    exact ⟨rfl, Heb.out.trans' (hE3.trans' hE9)⟩
end Go.Proofs.Ytodlbgncdggimaa
