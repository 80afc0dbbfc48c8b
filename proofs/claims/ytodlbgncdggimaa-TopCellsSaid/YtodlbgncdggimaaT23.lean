/- Contract of the reference: Free. -/
import Derived.Test.YtodlbgncdggimaaT22
namespace Go.Proofs.Ytodlbgncdggimaa
open Go.RowKit
attribute [local go_sem] GW.cell

/-- the first k pixels where several sites have the smallest power -/
def freeTo (l : List Site) (wd : Nat) : Nat → List Int
  | 0 => []
  | k + 1 => if 1 < cntP l (pxx wd k) (pxy wd k) then freeTo l wd k ++ [(k : Int)] else freeTo l wd k
def freeL (l : List Site) (x y : Int) : List Int := if okField l x y then freeTo l x.toNat (x.toNat * y.toNat) else []
theorem free_ok {l : List Site} {x y : Int} (h : okField l x y = true) : freeL l x y = freeTo l x.toNat (x.toNat * y.toNat) := by unfold freeL; rw [if_pos h]
theorem free_no {l : List Site} {x y : Int} (h : okField l x y = false) : freeL l x y = [] := by unfold freeL; rw [h]; rfl
theorem freeTo_yes {l : List Site} {wd k : Nat} (h : 1 < cntP l (pxx wd k) (pxy wd k)) : freeTo l wd (k + 1) = freeTo l wd k ++ [(k : Int)] := by rw [freeTo, if_pos h]
theorem freeTo_not {l : List Site} {wd k : Nat} (h : ¬ 1 < cntP l (pxx wd k) (pxy wd k)) : freeTo l wd (k + 1) = freeTo l wd k := by rw [freeTo, if_neg h]
theorem freeTo_len (l : List Site) (wd : Nat) : ∀ k, (freeTo l wd k).length ≤ k
  | 0 => Nat.le_refl _
  | k + 1 => by
    have := freeTo_len l wd k
    unfold freeTo
    split
    · simp; omega
    · omega
theorem cntP_le (l : List Site) (x y : Int) : cntP l x y ≤ l.length := cntTo_le _ _ _

set_option maxHeartbeats 2000000 in
theorem f34_c (a : Option Addr) (n c : Nat) (l : List Site) (x y : Int) (w : World) (hl : Sites w a l) (hn : l.length = n) (hlen : n ≤ 140737488355328) :
    Calls Try.prog 34 #[.slice a n c, .int .i64 x, .int .i64 y] w (RetInts (freeL l x y) (errOf (okField l x y)) w) := by
  subst hn
  have hc := f23_c a l.length c l w hl rfl hlen
  obtain ⟨i0, hi0⟩ := info_parts info3
  have Hi := Lib.hid hi0
  clear hi0
  rcases Bool.eq_false_or_eq_true (okSites l) with hok | hok
  · have he : errOf (okSites l) = 0 := by rw [hok]; rfl
    rw [he] at hc
    have Hc := Lib.hid hc
    have hl5 := okSites_len hok
    rcases Bool.eq_false_or_eq_true (withinB x 1 12 && withinB y 1 12) with hw | hw
    · have hF : okField l x y = true := by rw [field_split, hok, hw]; rfl
      obtain ⟨_, h1, h2, h3, h4⟩ := okField_bd hF
      have hp := prod_bd h1 h2 h3 h4
      have hL := free_ok hF
      have he2 : errOf (okField l x y) = 0 := by rw [hF]; rfl
      rw [hL, he2]
      obtain ⟨wd, rfl⟩ := Int.eq_ofNat_of_zero_le (a := x) (by omega)
      obtain ⟨ht, rfl⟩ := Int.eq_ofNat_of_zero_le (a := y) (by omega)
      have hN : ((wd : Int) * (ht : Int)) = ((wd * ht : Nat) : Int) := by simp
      have hN2 : wd * ht ≤ 144 := by omega
      have HN := Lib.hid hN
      have Hw := Lib.hid hw
      have Hok := Lib.hid hok
      clear hc he hok hw hF hL he2 hN
      go_enter Try.func34, Try.ntmps34
      go_wp2_with fail
      refine Hc.out.mono ?_
      rintro e w1 ⟨rfl, rfl⟩
      clear Hc
      go_wp2_with fail
      refine (f69_c _ _ _).mono ?_
      rintro e w1 ⟨rfl, rfl⟩
      rw [Hw.out]
      go_wp2_with fail
      go_loopw [9, 10, 11, 12] (fun v p _ _ wr => ∃ k : Nat, k ≤ wd * ht ∧ p = .int .i64 k ∧ Ext w wr ∧ Hid (wr.ownsRow w.heap.size 3 1 v (freeTo l wd k).length ((freeTo l wd k).map (.int .i64)))) (fun _ p _ _ _ => wd * ht - (intOf p).toNat)
      case atStart => exact ⟨0, by omega, rfl, Below.refl _ _, Lib.hid (World.ownsRow_nil _ _ _ _)⟩
      case round =>
        obtain ⟨k, hk, rfl, hE, H⟩ := hrel
        by_cases hlt : k < wd * ht
        · have hlt2 : (k : Int) < (wd : Int) * (ht : Int) := by rw [HN.out]; omega
          have hcp := cntP_le l (pxx wd k) (pxy wd k)
          have hfl := freeTo_len l wd k
          by_cases hq : 1 < cntP l (pxx wd k) (pxy wd k)
          · have d1 : decide (1 < (cntP l (pxx wd k) (pxy wd k) : Int)) = true := by simp; omega
            have Hq := Lib.hid (freeTo_yes hq)
            clear hq
            go_wp2_with fail
            refine (f66_c a l.length c l wd k wr (hl.ext hE) rfl Hok.out (by omega) (by omega) (by omega)).mono ?_
            rintro e w2 ⟨rfl, hE2⟩
            have hE3 := hE.trans' hE2
            have H3 := Lib.hid (row_ext H.out hE2)
            have Hn := Lib.hid (reads_ints (ints_new1 w2 (k : Int) 3 w2.heap.size rfl))
            have hsz := hE3.size
            clear H
            go_wp2_with (at_builtin; refine wpList_append_any _ rfl (.tmp 38) (.tmp 40) 26 rfl w.heap.size 3 i0 (.int .i64 0) 1 8 Try.underlying26 Hi.out.1 Hi.out.2.1 Hi.out.2.2.1 Hi.out.2.2.2 rfl (by omega) _ (freeTo l wd k).length _ rfl (Lib.hid (World.ownsRow.alloc H3.out _)).out _ (some ⟨w2.heap.size, 0, none⟩) 1 1 [.int .i64 k] rfl Hn.out (by simp [Value.oneCell']) (by unfold maxLen; omega) (by omega) (by simp; omega) ?_; intro v' w4 hown hgrow hat; have hE7 := ext_append hE3 H3.out (Nat.le_refl _) hgrow; have H7 : Hid (w4.ownsRow w.heap.size 3 1 v' (freeTo l wd (k + 1)).length ((freeTo l wd (k + 1)).map (.int .i64))) := (by rw [Hq.out, List.map_append, List.length_append]; exact hown); clear hat hgrow hown)
            go_roundw
            case rel => exact ⟨k + 1, by omega, by go_num, hE7, H7⟩
            case measure => simp [intOf]; omega
          · have d1 : decide (1 < (cntP l (pxx wd k) (pxy wd k) : Int)) = false := by simp; omega
            have Hq := Lib.hid (freeTo_not hq)
            clear hq
            go_wp2_with fail
            refine (f66_c a l.length c l wd k wr (hl.ext hE) rfl Hok.out (by omega) (by omega) (by omega)).mono ?_
            rintro e w2 ⟨rfl, hE2⟩
            have hE3 := hE.trans' hE2
            have H3 := Lib.hid (row_ext H.out hE2)
            clear H
            go_wp2_with fail
            go_roundw
            case rel => exact ⟨k + 1, by omega, by go_num, hE3, by rw [Hq.out]; exact H3⟩
            case measure => simp [intOf]; omega
        · obtain rfl : k = wd * ht := by omega
          have hlt2 : ¬ ((wd * ht : Nat) : Int) < (wd : Int) * (ht : Int) := by rw [HN.out]; omega
          obtain ⟨ad, cp, rfl, hI⟩ := ints_of_row H.out
          clear H
          go_wp2_with fail
          go_ret2
          exact ⟨ad, cp, rfl, hI, hE⟩
    · have hF : okField l x y = false := by rw [field_split, hw]; simp
      have he2 : errOf (okField l x y) = 1 := by rw [hF]; rfl
      rw [he2, free_no hF]
      have Hw := Lib.hid hw
      clear hc he hok hw hF he2
      go_enter Try.func34, Try.ntmps34
      go_wp2_with fail
      refine Hc.out.mono ?_
      rintro e w1 ⟨rfl, rfl⟩
      clear Hc
      go_wp2_with fail
      refine (f69_c _ _ _).mono ?_
      rintro e w1 ⟨rfl, rfl⟩
      rw [Hw.out]
      go_wp2_with fail
      go_ret2
      exact retI_nil (Below.refl _ _)
  · have he : errOf (okSites l) = 1 := by rw [hok]; rfl
    rw [he] at hc
    have hF : okField l x y = false := by rw [field_split, hok]; rfl
    have he2 : errOf (okField l x y) = 1 := by rw [hF]; rfl
    rw [he2, free_no hF]
    have Hc := Lib.hid hc
    clear hc he hok hF he2
    go_enter Try.func34, Try.ntmps34
    go_wp2_with fail
    refine Hc.out.mono ?_
    rintro e w1 ⟨rfl, rfl⟩
    clear Hc
    go_wp2_with fail
    go_ret2
    exact retI_nil (Below.refl _ _)
end Go.Proofs.Ytodlbgncdggimaa
