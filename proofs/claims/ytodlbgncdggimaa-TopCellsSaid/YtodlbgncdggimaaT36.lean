/- Contracts: Dual, of the program and of the reference. -/
import Derived.Test.YtodlbgncdggimaaT35
namespace Go.Proofs.Ytodlbgncdggimaa
open Go.RowKit
attribute [local go_sem] GW.cell Oper.semAt_some wide_depth

set_option maxHeartbeats 4000000 in
theorem f53_c (a b : Option Addr) (n c m d : Nat) (l : List Site) (S : List Int) (x y : Int) (w : World) (hl : Sites w a l) (hS : Ints w b S) (hn : l.length = n) (hm : S.length = m) (hlen : n ≤ 140737488355328) (hlm : m ≤ 140737488355328) :
    Calls Try.prog 53 #[.slice a n c, .int .i64 x, .int .i64 y, .slice b m d] w (RetI (dualV l x y S) (errOf (okShared l x y S)) w) := by
  subst hn hm
  have hc := f83_c a b l.length c S.length d l S x y w hl hS rfl rfl hlen hlm
  rcases errOf_cases2 (okShared l x y S) with ⟨hok, he⟩ | ⟨hok, he⟩
  · obtain ⟨hF, hq, hnn, hsum⟩ := shared_spec.1 hok
    have hel := fun j (hj : j < S.length) => shared_elem hok hj
    obtain ⟨hos, h1, h2, h3, h4⟩ := okField_bd hF
    have hp := prod_bd h1 h2 h3 h4
    rw [dual_ok hok]
    rw [he] at hc ⊢
    obtain ⟨wd, rfl⟩ := Int.eq_ofNat_of_zero_le (a := x) (by omega)
    obtain ⟨ht, rfl⟩ := Int.eq_ofNat_of_zero_le (a := y) (by omega)
    have hN : ((wd : Int) * (ht : Int)) = ((wd * ht : Nat) : Int) := by simp
    have hN2 : wd * ht ≤ 144 := by omega
    have hS5 := (okSites_len hos).2
    have hlow := low_bd hos (wd := wd) (by omega) (by omega)
    have hhv := heavy_bd hos hq (fun j hj => by have := hel j hj; omega)
    have hst := fun i (h : i < l.length) => okSites_at hos h
    have HN := Lib.hid hN
    have Hc := Lib.hid hc
    have Hos := Lib.hid hos
    have Hlow := Lib.hid hlow
    have Hhv := Lib.hid hhv
    have Hst := Lib.hid hst
    have Hel := Lib.hid hel
    have Hq := Lib.hid hq
    clear hc he hok hF hq hnn hsum hel hos hN hlow hhv hst
    go_enter Try.func53, Try.ntmps53
    go_wp2_with fail
    refine Hc.out.mono ?_
    rintro e w1 ⟨rfl, hE1⟩
    clear Hc
    go_wp2_with fail
    go_loopw [11, 12, 13, 14] (fun v i _ _ wr => ∃ k : Nat, k ≤ wd * ht ∧ i = .int .i64 k ∧ v = .int .i64 (lowTo l wd k) ∧ Ext w wr) (fun _ i _ _ _ => wd * ht - (intOf i).toNat)
    case atStart => exact ⟨0, by omega, rfl, rfl, hE1⟩
    case round =>
      obtain ⟨k, hk, rfl, rfl, hE⟩ := hrel
      have hb := Hlow.out k (by omega)
      by_cases hlt : k < wd * ht
      · have hlt2 : (k : Int) < (wd : Int) * (ht : Int) := by rw [HN.out]; omega
        have hb2 := Hlow.out (k + 1) (by omega)
        have Hsu := Lib.hid (show lowTo l wd (k + 1) = lowTo l wd k + leastP l (pxx wd k) (pxy wd k) from rfl)
        rw [show lowTo l wd (k + 1) = lowTo l wd k + leastP l (pxx wd k) (pxy wd k) from rfl] at hb2
        go_wp2_with fail
        refine (f66_c a l.length c l wd k wr (hl.ext hE) rfl Hos.out (by omega) (by omega) (by omega)).mono ?_
        rintro e w2 ⟨rfl, hE2⟩
        generalize leastP l (pxx wd k) (pxy wd k) = lp at *
        generalize lowTo l wd k = lo at *
        go_wp2_with fail
        go_roundw
        case rel => exact ⟨k + 1, by omega, by go_num, by rw [Hsu.out], hE.trans' hE2⟩
        case measure => simp [intOf]; omega
      · obtain rfl : k = wd * ht := by omega
        have hlt2 : ¬ ((wd * ht : Nat) : Int) < (wd : Int) * (ht : Int) := by rw [HN.out]; omega
        generalize hLo : lowTo l wd (wd * ht) = lo at *
        have HLo := Lib.hid hLo
        clear hLo
        go_wp2_with fail
        go_loopw [11, 15] (fun v i wr => ∃ k : Nat, k ≤ l.length ∧ i = .int .i64 k ∧ v = .int .i64 (lo + heavyTo l S k) ∧ Ext w wr) (fun _ i _ => l.length - (intOf i).toNat)
        case atStart => exact ⟨0, by omega, rfl, by simp [heavyTo], hE⟩
        case round =>
          obtain ⟨k, hk, rfl, rfl, hE⟩ := hrel
          have hb1 := Hhv.out k (by omega)
          by_cases hlt : k < l.length
          · have hkS : k < S.length := by rw [Hq.out]; exact hlt
            have hb2 := Hhv.out (k + 1) (by omega)
            have hh := heavy_step hkS hlt
            have Hsu := Lib.hid hh
            have hsb := share_bd (Hst.out k hlt) (n := S[k]) (Hel.out k hkS).1 (by have := Hel.out k hkS; rw [HN.out] at this; omega)
            obtain ⟨bO, oO, rfl, hbO, hcO⟩ := hS.ext hE k hkS
            rw [List.getElem?_eq_getElem hkS, Option.getD_some] at hcO
            obtain ⟨bl, ol, rfl, hbl, hcx, hcy, hcw⟩ := hl.ext hE k hlt
            generalize heavyTo l S k = hv at *
            clear hh
            have hSl : k < S.length := hkS
            have hSn : (k : Int) < (S.length : Int) := by omega
            go_wp2_with fail
            refine wp_region_ext (by kernel_rfl) (by kernel_rfl) ?_
            repeat (go_big_quiet_step (fail))
            refine wpQuiet_nil ?_
            intro w2 hE2
            go_wp2_with fail
            go_roundw
            case rel => exact ⟨k + 1, by omega, by go_num, by rw [Hsu.out, Int.add_assoc], hE.trans' hE2⟩
            case measure => simp [intOf]; omega
          · obtain rfl : k = l.length := by omega
            go_wp2_with fail
            go_ret2
            exact ⟨by rw [Int.toNat_natCast, Int.toNat_natCast, HLo.out]; rfl, hE⟩
  · rw [dual_no hok]
    rw [he] at hc ⊢
    have Hc := Lib.hid hc
    clear hc he hok
    go_enter Try.func53, Try.ntmps53
    go_wp2_with fail
    refine Hc.out.mono ?_
    rintro e w1 ⟨rfl, hE1⟩
    clear Hc
    go_wp2_with fail
    go_ret2
    exact ⟨rfl, hE1⟩
end Go.Proofs.Ytodlbgncdggimaa
