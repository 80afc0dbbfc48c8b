/- CellBalances: the law's walk. -/
import Derived.Test.YtodlbgncdggimaaT47
import Derived.Test.YtodlbgncdggimaaT37
import Derived.Test.YtodlbgncdggimaaT27
import Derived.Test.YtodlbgncdggimaaLAlk
namespace Go.Proofs.Ytodlbgncdggimaa
open Go.RowKit
attribute [local go_sem] GW.cell

set_option maxRecDepth 20000 in
set_option maxHeartbeats 8000000 in
theorem lawBalances (w : World) (a : Option Addr) (n c : Nat) (l : List Site) (hl : Sites w a l) (hn : l.length = n) (x y : Int) (b : Option Addr) (m d : Nat) (O : List Int) (hO : Ints w b O) (hm : O.length = m) :
    Calls Try.prog 16 #[.slice a n c, .agg #[.int .i64 x, .int .i64 y], .slice b m d] w fun e w' => e = .returned (.bool true) ∧ Ext w w' := by
  subst hn hm
  have hEb := ext_alloc w (.cells #[.int .i64 x, .int .i64 y] 24)
  by_cases h40 : 40 < l.length
  · have hd : decide (40 < (l.length : Int)) = true := by simp; omega
    go_enter Try.func16, Try.ntmps16
    go_wp2_with fail
    refine (f17_c _).mono ?_
    rintro e w1 ⟨rfl, hE⟩
    go_wp2_with fail
    go_ret
    exact ⟨rfl, hEb.trans' hE⟩
  have hd : decide (40 < (l.length : Int)) = false := by simp; omega
  have hlen : l.length ≤ 140737488355328 := by omega
  by_cases h200 : 200 < O.length
  · have hd2 : decide (200 < (O.length : Int)) = true := by simp; omega
    go_enter Try.func16, Try.ntmps16
    go_wp2_with fail
    refine (f24_c _ _ _ _).mono ?_
    rintro e w1 ⟨rfl, rfl⟩
    rw [hd2]
    go_wp2_with fail
    refine (f17_c _).mono ?_
    rintro e w1 ⟨rfl, hE⟩
    go_wp2_with fail
    go_ret
    exact ⟨rfl, hEb.trans' hE⟩
  have hd2 : decide (200 < (O.length : Int)) = false := by simp; omega
  have hlm : O.length ≤ 140737488355328 := by omega
  have Hd2 := Lib.hid hd2
  have HB := Lib.hid (BlkC.new w #[.int .i64 x, .int .i64 y] 24)
  have hz := HB.out.lt
  have g0 := HB.out.cellv 0 (v := .int .i64 x) rfl
  have g1 := HB.out.cellv 1 (v := .int .i64 y) rfl
  clear hd2 h200
  go_enter Try.func16, Try.ntmps16
  go_wp2_with fail
  generalize (w.alloc (.cells #[.int .i64 x, .int .i64 y] 24)) = w0 at *
  refine (f24_c _ _ _ _).mono ?_
  rintro e w1 ⟨rfl, rfl⟩
  rw [Hd2.out]
  go_wp2_with fail
  refine (f51_c a b l.length c O.length d l O x y w0 (hl.ext hEb) (hO.ext hEb) rfl rfl hlen hlm).mono ?_
  rintro e w2 ⟨L, P, a2, c2, b2, d2, rfl, hL, hP, hbal, hX2⟩
  have hE2 := hEb.trans' hX2
  clear g0 g1 hz
  have g0 := (HB.out.ext hX2).cellv 0 (v := .int .i64 x) rfl
  have g1 := (HB.out.ext hX2).cellv 1 (v := .int .i64 y) rfl
  have hz := (HB.out.ext hX2).lt
  have H53 := Lib.hid (f53_c a b l.length c O.length d l O x y w2 (hl.ext hE2) (hO.ext hE2) rfl rfl hlen hlm)
  rcases errOf_cases2 (okShared l x y O) with ⟨hok, he⟩ | ⟨hok, he⟩
  · have hsaid := bal_said hok hbal
    have hLl := hsaid.len
    have Hs := Lib.hid hsaid
    have Hok := Lib.hid hok
    rw [he] at H53
    rw [he, hLl]
    clear hsaid hbal hok he
    go_wp2_with fail
    refine H53.out.mono ?_
    rintro e w3 ⟨rfl, hX3⟩
    have hX3 := hX2.trans' hX3
    have hE3 := hEb.trans' hX3
    have hX23 : Ext w2 w3 := by assumption
    clear g0 g1 hz
    have g0 := (HB.out.ext hX3).cellv 0 (v := .int .i64 x) rfl
    have g1 := (HB.out.ext hX3).cellv 1 (v := .int .i64 y) rfl
    have hz := (HB.out.ext hX3).lt
    have hL3 := hL.ext hX23
    have hP3 := hP.ext hX23
    clear hX23 hL hP hX2 hE2
    go_wp2_with fail
    refine (f54_c a b a2 b2 l.length c O.length d c2 P.length d2 l L O P x y w3 (hl.ext hE3) (hO.ext hE3) hL3 hP3 rfl rfl rfl hlen hlm Hok.out Hs.out).mono ?_
    rintro e w4 ⟨rfl, hX4'⟩
    have hX4 := hX3.trans' hX4'
    have hE4 := hEb.trans' hX4
    have hL4 := hL3.ext hX4'
    have hP4 := hP3.ext hX4'
    clear g0 g1 hz hL3 hP3 hX4' hX3 hE3
    have g0 := (HB.out.ext hX4).cellv 0 (v := .int .i64 x) rfl
    have g1 := (HB.out.ext hX4).cellv 1 (v := .int .i64 y) rfl
    have hz := (HB.out.ext hX4).lt
    have h50 := f50_c a2 b l.length c2 O.length d L O x y w4 hL4 (hO.ext hE4) hLl rfl hlen hlm
    rw [show errOf (okShared L x y O) = 0 by rw [Hs.out.shared]; rfl, Hs.out.dual] at h50
    have hpl := Hs.out.small.2
    have HP : ∀ W, Ext w4 W → Calls Try.prog 37 #[.slice a l.length c, .int .i64 x, .int .i64 y, .slice b2 P.length d2] W (RetI (costTo l x.toNat P P.length) 0 W) := fun W hW => by
      have h := f37_c a b2 l.length c P.length d2 l P x y W (hl.ext (hE4.trans' hW)) (hP4.ext hW) rfl rfl hlen (by omega)
      rw [show errOf (okOwned l x y P) = 0 by rw [Hs.out.owned]; rfl, costV_ok Hs.out.owned] at h
      exact h
    have HLs : Hid (∀ v, LeastOf l x y O v → v = costTo l x.toNat P P.length) := Lib.hid Hs.out.least
    have H50 := Lib.hid h50
    have HP := Lib.hid HP
    clear h50 hL4 hP4
    generalize costTo l x.toNat P P.length = cst at *
    have hcc : (cst == cst) = true := by simp
    go_wp2_with fail
    refine H50.out.mono ?_
    rintro e w5 ⟨rfl, hX5'⟩
    have hX5 := hX4.trans' hX5'
    clear g0 g1 hz
    have g0 := (HB.out.ext hX5).cellv 0 (v := .int .i64 x) rfl
    have g1 := (HB.out.ext hX5).cellv 1 (v := .int .i64 y) rfl
    have hz := (HB.out.ext hX5).lt
    go_wp2_with fail
    refine (HP.out w5 hX5').mono ?_
    rintro e w6 ⟨rfl, hX6'⟩
    have hX6 := hX5.trans' hX6'
    clear g0 g1 hz
    have g0 := (HB.out.ext hX6).cellv 0 (v := .int .i64 x) rfl
    have g1 := (HB.out.ext hX6).cellv 1 (v := .int .i64 y) rfl
    have hz := (HB.out.ext hX6).lt
    have hE6 := hEb.trans' hX6
    go_wp2_with fail
    refine (f49_c a b l.length c O.length d l O x y w6 (hl.ext hE6) (hO.ext hE6) rfl rfl hlen hlm).mono ?_
    rintro e w7 ⟨v, rfl, hv, hX7⟩
    rw [show errOf (okShared l x y O) = 0 by rw [Hok.out]; rfl]
    obtain rfl := HLs.out v hv
    have hE7 := hE6.trans' hX7
    clear hv g0 g1 hz
    go_wp2_with fail
    refine (f17_c _).mono ?_
    rintro e w8 ⟨rfl, hX8⟩
    go_wp2_with fail
    go_ret
    exact ⟨rfl, hE7.trans' hX8⟩
  · obtain ⟨rfl, rfl⟩ := hbal.1 hok
    rw [he] at H53
    rw [he]
    clear hbal hok he
    go_wp2_with fail
    refine H53.out.mono ?_
    rintro e w3 ⟨rfl, hX3⟩
    have hE3 := hE2.trans' hX3
    go_wp2_with fail
    refine (f17_c _).mono ?_
    rintro e w4 ⟨rfl, hX4⟩
    go_wp2_with fail
    go_ret
    exact ⟨rfl, hE3.trans' hX4⟩
end Go.Proofs.Ytodlbgncdggimaa
