/- CellWeights: the law's walk. -/
import Derived.Test.YtodlbgncdggimaaP9
import Derived.Test.YtodlbgncdggimaaLStr
namespace Go.Proofs.Ytodlbgncdggimaa
open Go.RowKit
attribute [local go_sem] GW.cell

theorem weights_len {pl sh : List Int} {fr : Int} : (weightsL pl sh fr).length ≤ pl.length := by
  unfold weightsL
  split
  · rw [wts_length]; exact Nat.le_refl _
  · simp

set_option maxHeartbeats 8000000 in
theorem lawWeights (w : World) (a : Option Addr) (n c : Nat) (pl : List Int) (hp : Ints w a pl) (hn : pl.length = n) (b : Option Addr) (m d : Nat) (sh : List Int) (hs : Ints w b sh) (hm : sh.length = m) (fr : Int) :
    Calls Try.prog 12 #[.slice a n c, .slice b m d, .int .i64 fr] w fun e w' => e = .returned (.bool true) ∧ Ext w w' := by
  subst hn hm
  by_cases h200 : 200 < pl.length
  · have hd2 : decide (200 < (pl.length : Int)) = true := by simp; omega
    go_enter Try.func12, Try.ntmps12
    go_wp2_with fail
    refine (f24_c _ _ _ _).mono ?_
    rintro e w1 ⟨rfl, rfl⟩
    rw [hd2]
    go_wp2_with fail
    refine (f17_c _).mono ?_
    rintro e w1 ⟨rfl, hE⟩
    go_wp2_with fail
    go_ret
    exact ⟨rfl, hE⟩
  have hd1 : decide (200 < (pl.length : Int)) = false := by simp; omega
  by_cases h201 : 200 < sh.length
  · have hd2 : decide (200 < (sh.length : Int)) = true := by simp; omega
    go_enter Try.func12, Try.ntmps12
    go_wp2_with fail
    refine (f24_c _ _ _ _).mono ?_
    rintro e w1 ⟨rfl, rfl⟩
    rw [hd1]
    go_wp2_with fail
    refine (f24_c _ _ _ _).mono ?_
    rintro e w1 ⟨rfl, rfl⟩
    rw [hd2]
    go_wp2_with fail
    refine (f17_c _).mono ?_
    rintro e w1 ⟨rfl, hE⟩
    go_wp2_with fail
    go_ret
    exact ⟨rfl, hE⟩
  have hd2 : decide (200 < (sh.length : Int)) = false := by simp; omega
  have hlen : pl.length ≤ 140737488355328 := by omega
  have hlm : sh.length ≤ 140737488355328 := by omega
  have Hd1 := Lib.hid hd1
  have Hd2 := Lib.hid hd2
  have h46 := fun W (h : Ints W a pl) (k : Ints W b sh) => f46_c a b pl.length sh.length c d pl sh fr W h k rfl rfl hlen hlm
  have h47 := fun W (h : Ints W a pl) (k : Ints W b sh) => f47_c a b pl.length sh.length c d pl sh fr W h k rfl rfl hlen hlm
  have hwl := weights_len (pl := pl) (sh := sh) (fr := fr)
  rcases errOf_cases2 (okW pl sh fr) with ⟨hok, he⟩ | ⟨hok, he⟩
  · have hwo := okW_spec hok
    have hl5 := (okLine_spec hwo.line).1
    have hLen := hwo.len
    have hto : tAt sh fr sh.length = fr + sh.sum := by unfold tAt; rw [List.take_length]
    have h2 := weights_ok hwo
    have h1 : weightsL pl sh fr = wts pl sh fr pl.length := by unfold weightsL; rw [if_pos hok]
    have hL : strsL pl (wts pl sh fr pl.length) fr (tAt sh fr sh.length) = (List.range pl.length).map (strAt pl (wts pl sh fr pl.length) fr (tAt sh fr sh.length)) := by unfold strsL; rw [if_pos h2]
    have hLk : ∀ k (h : k < (strsL pl (wts pl sh fr pl.length) fr (tAt sh fr sh.length)).length), (strsL pl (wts pl sh fr pl.length) fr (tAt sh fr sh.length))[k] = ⟨tAt sh fr k, 1, tAt sh fr (k + 1), 1⟩ := by
      rw [hL]; intro k h
      simp only [List.getElem_map, List.getElem_range]
      exact weights_str hwo (by simpa using h)
    have hL1 : (strsL pl (wts pl sh fr pl.length) fr (tAt sh fr sh.length)).length = sh.length := by rw [hL]; simp [hLen]
    have hw1 : (wts pl sh fr pl.length).length = pl.length := wts_length _ _ _ _
    have hsm : ∀ k, k ≤ sh.length → 0 ≤ (sh.take k).sum ∧ (sh.take k).sum ≤ 60 := fun k hk => by
      have e : tAt sh fr k = fr + (sh.take k).sum := rfl
      have g1 := tAt_le hwo (k := 0) k (by omega)
      have g2 := hwo.tb k hk
      have g3 := hwo.frb
      rw [tAt_zero, Nat.zero_add] at g1
      omega
    have h48 := fun W (h : Ints W b sh) => f48_c b sh.length d sh W h rfl (by omega) (fun k hk => by have := hsm k hk; omega)
    have hsum := hsm sh.length (Nat.le_refl _)
    rw [List.take_length] at hsum
    have htk := hwo.tb
    have hsk := hwo.share
    have hfb := hwo.frb
    rw [he] at h46 h47
    rw [h1] at h46 h47 hwl
    have h41 := fun W a1 c1 (h : Ints W a pl) (k : Ints W a1 (wts pl sh fr pl.length)) => f41_c a a1 pl.length c (wts pl sh fr pl.length).length c1 pl (wts pl sh fr pl.length) fr (tAt sh fr sh.length) W h k rfl rfl hlen (by omega)
    rw [show errOf (okStr pl (wts pl sh fr pl.length) fr (tAt sh fr sh.length)) = 0 by rw [h2]; rfl] at h41
    generalize strsL pl (wts pl sh fr pl.length) fr (tAt sh fr sh.length) = M at *
    generalize wts pl sh fr pl.length = L at *
    rw [hto] at h41
    have H46 := Lib.hid h46
    have H47 := Lib.hid h47
    have H41 := Lib.hid h41
    have H48 := Lib.hid h48
    have HL1 := Lib.hid hL1
    have HLk := Lib.hid hLk
    have Htk := Lib.hid htk
    have Hsk := Lib.hid hsk
    have hnM : ((M.length : Int) != (sh.length : Int)) = false := by simp [hL1]
    have hM5 : M.length ≤ 5 := by omega
    clear hd1 hd2 h46 h47 h41 h48 he hok h200 h201 hL hLk hL1 htk hsk hwo h1 h2 hLen hto hsm hw1
    go_enter Try.func12, Try.ntmps12
    go_wp2_with fail
    refine (f24_c _ _ _ _).mono ?_
    rintro e w1 ⟨rfl, rfl⟩
    rw [Hd1.out]
    go_wp2_with fail
    refine (f24_c _ _ _ _).mono ?_
    rintro e w1 ⟨rfl, rfl⟩
    rw [Hd2.out]
    go_wp2_with fail
    refine (H46.out _ hp hs).mono ?_
    rintro e w1 ⟨a1, c1, rfl, hI1, hE1⟩
    clear H46
    go_wp2_with fail
    refine (H47.out _ (hp.ext hE1) (hs.ext hE1)).mono ?_
    rintro e w2 ⟨a2, c2, rfl, hI2, hE2'⟩
    have hE2 := hE1.trans' hE2'
    have hI1 := hI1.ext hE2'
    clear H47 hE1 hE2'
    go_wp2_with fail
    refine (f19_c a1 a2 _ _ c1 c2 L L w2 hI1 hI2 rfl rfl (by omega) (by omega)).mono ?_
    rintro e w3 ⟨rfl, hE3'⟩
    rw [show decide (L = L) = true by simp]
    have hE3 := hE2.trans' hE3'
    have hI1 := hI1.ext hE3'
    clear hI2 hE2 hE3'
    go_wp2_with fail
    refine (H48.out _ (hs.ext hE3)).mono ?_
    rintro e w4 ⟨rfl, hE4'⟩
    have hE4 := hE3.trans' hE4'
    have hI1 := hI1.ext hE4'
    clear H48 hE3 hE4'
    go_wp2_with fail
    refine (H41.out _ _ _ (hp.ext hE4) hI1).mono ?_
    intro e w5 hR
    obtain ⟨a5, c5, rfl, hS5, hE5'⟩ := retStrs_read hR
    have hE5 := hE4.trans' hE5'
    clear hR H41 hE4 hE5' hI1
    go_wp2_with fail
    go_loopw [14, 15] (fun v i wr => ∃ k : Nat, k ≤ M.length ∧ i = .int .i64 k ∧ v = .int .i64 (tAt sh fr k) ∧ Ext w5 wr) (fun _ i _ => M.length - (intOf i).toNat)
    case atStart => exact ⟨0, by omega, rfl, by rw [tAt_zero], Below.refl _ _⟩
    case round =>
      obtain ⟨k, hk, rfl, rfl, hE6⟩ := hrel
      by_cases hlt : k < M.length
      · have hks : k < sh.length := by rw [← HL1.out]; exact hlt
        obtain ⟨b1, o1, rfl, hb1, s1, s2, s3, s4⟩ := hS5.ext hE6 k hlt
        rw [HLk.out k hlt] at s1 s2 s3 s4
        dsimp only at s1 s2 s3 s4
        have ht := Htk.out k (by omega)
        have hsb := Hsk.out k hks
        have hts := tAt_succ sh fr hks
        rw [hts] at s3
        have Hts := Lib.hid hts
        obtain ⟨b2, o2, rfl, hb2, hc2⟩ := (hs.ext (hE5.trans' hE6)) k hks
        rw [List.getElem?_eq_getElem hks, Option.getD_some] at hc2 hsb
        generalize tAt sh fr k = t at *
        clear hts
        go_wp2_with fail
        refine wp_region_ext (by kernel_rfl) (by kernel_rfl) ?_
        repeat (go_big_quiet_step (fail))
        refine wpQuiet_nil ?_
        intro w6 hE7
        have hc2 := (hE7.cell' hb2).trans hc2
        clear s1 s2 s3 s4
        go_wp2_with fail
        go_roundw
        case rel => exact ⟨k + 1, by omega, by go_num, by rw [Hts.out], hE6.trans' hE7⟩
        case measure => simp [intOf]; omega
      · obtain rfl : k = M.length := by omega
        go_wp2_with fail
        refine (f17_c _).mono ?_
        rintro e w9 ⟨rfl, hE9⟩
        go_wp2_with fail
        go_ret
        exact ⟨rfl, hE5.trans' (hE6.trans' hE9)⟩
  · rw [he] at h46 h47
    generalize weightsL pl sh fr = L at *
    have H46 := Lib.hid h46
    have H47 := Lib.hid h47
    clear hd1 hd2 h46 h47 he hok h200 h201
    go_enter Try.func12, Try.ntmps12
    go_wp2_with fail
    refine (f24_c _ _ _ _).mono ?_
    rintro e w1 ⟨rfl, rfl⟩
    rw [Hd1.out]
    go_wp2_with fail
    refine (f24_c _ _ _ _).mono ?_
    rintro e w1 ⟨rfl, rfl⟩
    rw [Hd2.out]
    go_wp2_with fail
    refine (H46.out _ hp hs).mono ?_
    rintro e w1 ⟨a1, c1, rfl, hI1, hE1⟩
    clear H46
    go_wp2_with fail
    refine (H47.out _ (hp.ext hE1) (hs.ext hE1)).mono ?_
    rintro e w2 ⟨a2, c2, rfl, hI2, hE2'⟩
    have hE2 := hE1.trans' hE2'
    have hI1 := hI1.ext hE2'
    clear H47 hE1 hE2'
    go_wp2_with fail
    refine (f19_c a1 a2 _ _ c1 c2 L L w2 hI1 hI2 rfl rfl (by omega) (by omega)).mono ?_
    rintro e w3 ⟨rfl, hE3'⟩
    rw [show decide (L = L) = true by simp]
    have hE3 := hE2.trans' hE3'
    have hI1 := hI1.ext hE3'
    clear hI2 hE2 hE3'
    go_wp2_with fail
    refine (f17_c _).mono ?_
    rintro e w9 ⟨rfl, hE9⟩
    go_wp2_with fail
    go_ret
    exact ⟨rfl, hE3.trans' hE9⟩
end Go.Proofs.Ytodlbgncdggimaa
