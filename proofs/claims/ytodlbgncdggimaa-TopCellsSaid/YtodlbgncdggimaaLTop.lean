/- TopCells: the law's walk. -/
import Derived.Test.YtodlbgncdggimaaP16
import Derived.Test.YtodlbgncdggimaaT47
import Derived.Test.YtodlbgncdggimaaT37
import Derived.Test.YtodlbgncdggimaaT27
import Derived.Test.YtodlbgncdggimaaT19
import Derived.Test.YtodlbgncdggimaaLAlk
namespace Go.Proofs.Ytodlbgncdggimaa
open Go.RowKit
attribute [local go_sem] GW.cell

theorem sites_lit (w : World) (s : Site) (T : TypeId) (B : Nat) (hB : w.heap.size = B) : Sites (w.alloc (.cells #[.int .i64 s.x, .int .i64 s.y, .int .i64 s.w] T)) (some ⟨B, 0, none⟩) [s] := by
  subst hB
  intro j hj
  refine ⟨_, _, rfl, by simp, ?_⟩
  match j, hj with
  | 0, _ => simp
theorem topPow : powVal [⟨3, 0, 3⟩] 0 1 0 = 1 ∧ powErr [⟨3, 0, 3⟩] 0 1 0 = 0 := by decide +kernel

set_option maxRecDepth 20000 in
set_option maxHeartbeats 16000000 in
theorem lawTop (w : World) (a : Option Addr) (n c : Nat) (l : List Site) (hl : Sites w a l) (hn : l.length = n) (x y : Int) (b : Option Addr) (m d : Nat) (Q : List Int) (hQ : Ints w b Q) (hm : Q.length = m) :
    Calls Try.prog 13 #[.slice a n c, .agg #[.int .i64 x, .int .i64 y], .slice b m d] w fun e w' => e = .returned (.bool true) ∧ Ext w w' := by
  subst hn hm
  have hEb := ext_alloc w (.cells #[.int .i64 x, .int .i64 y] 24)
  have C20 : ∀ a w, Sites w a [⟨3, 0, 3⟩] → Calls Try.prog 20 #[.slice a 1 1, .int .i64 0, .int .i64 1, .int .i64 0] w fun e w' => e = .returned (.tuple #[.int .i64 1, .int .i64 0]) ∧ Ext w w' := fun a w h => by
    have := f20_c a 1 1 [⟨3, 0, 3⟩] 0 1 0 w h rfl (by omega)
    unfold RetPow at this
    rw [topPow.1, topPow.2] at this
    exact this
  have C20 := Lib.hid C20
  have HB := Lib.hid (BlkC.new w #[.int .i64 x, .int .i64 y] 24)
  have Hs0 := Lib.hid (show (w.alloc (.cells #[.int .i64 x, .int .i64 y] 24)).heap.size = w.heap.size + 1 by simp)
  go_enter Try.func13, Try.ntmps13
  go_wp2_with fail
  generalize (w.alloc (.cells #[.int .i64 x, .int .i64 y] 24)) = w0 at *
  refine (C20.out _ _ (sites_lit w0 ⟨3, 0, 3⟩ _ _ Hs0.out)).mono ?_
  rintro e w1 ⟨rfl, hX'⟩
  have hX1 : Ext w0 w1 := (ext_alloc w0 _).trans' hX'
  have hE1 := hEb.trans' hX1
  clear hX'
  by_cases h40 : 40 < l.length
  · have hd : decide (40 < (l.length : Int)) = true := by simp; omega
    go_wp2_with fail
    go_ret
    exact ⟨rfl, hE1⟩
  have hd : decide (40 < (l.length : Int)) = false := by simp; omega
  have hlen : l.length ≤ 140737488355328 := by omega
  by_cases h200 : 200 < Q.length
  · have hd2 : decide (200 < (Q.length : Int)) = true := by simp; omega
    go_wp2_with fail
    go_ret
    exact ⟨rfl, hE1⟩
  have hd2 : decide (200 < (Q.length : Int)) = false := by simp; omega
  have hlm : Q.length ≤ 140737488355328 := by omega
  have g0 := (HB.out.ext hX1).cellv 0 (v := .int .i64 x) rfl
  have g1 := (HB.out.ext hX1).cellv 1 (v := .int .i64 y) rfl
  have hz := (HB.out.ext hX1).lt
  go_wp2_with fail
  refine (f18_c a l.length c l x y w1 (hl.ext hE1) rfl hlen).mono ?_
  rintro e w2 ⟨a1, c1, rfl, hOw, hY⟩
  have hX2 := hX1.trans' hY
  have hE2 := hEb.trans' hX2
  clear hY g0 g1 hz
  have g0 := (HB.out.ext hX2).cellv 0 (v := .int .i64 x) rfl
  have g1 := (HB.out.ext hX2).cellv 1 (v := .int .i64 y) rfl
  have hz := (HB.out.ext hX2).lt
  have hcl := cells_len l x y
  rcases errOf_cases2 (okField l x y) with ⟨hF, he⟩ | ⟨hF, he⟩
  case inr =>
    have hnil : cellsL l x y = [] := by unfold cellsL; rw [hF]; rfl
    rw [he, hnil]
    go_wp2_with fail
    go_ret
    exact ⟨rfl, hE2⟩
  rw [he]
  obtain ⟨s1, s2, s3⟩ := cells_said hF
  have ho := cells_owned hF
  have hsl : (sharesL l x y).length = l.length := by rw [shares_ok hF, countL, countTo_length]
  have C31 := Lib.hid (fun W (h : Ext w W) => f31_c a l.length c l x y W (hl.ext h) rfl hlen)
  have C37 := Lib.hid (fun W (h : Ext w W) (k : Ints W a1 (cellsL l x y)) => f37_c a a1 l.length c (cellsL l x y).length c1 l (cellsL l x y) x y W (hl.ext h) k rfl rfl hlen (by omega))
  have C49 := Lib.hid (fun W a2 c2 (h : Ext w W) (k : Ints W a2 (sharesL l x y)) => f49_c a a2 l.length c (sharesL l x y).length c2 l (sharesL l x y) x y W (hl.ext h) k rfl rfl hlen (by omega))
  have C50 := Lib.hid (fun W a2 c2 (h : Ext w W) (k : Ints W a2 (sharesL l x y)) => f50_c a a2 l.length c (sharesL l x y).length c2 l (sharesL l x y) x y W (hl.ext h) k rfl rfl hlen (by omega))
  rw [he] at C31
  rw [show errOf (okOwned l x y (cellsL l x y)) = 0 by rw [ho]; rfl, costV_ok ho] at C37
  unfold RetLst at C49
  rw [s1, show errOf true = 0 from rfl] at C49
  unfold RetI at C50
  rw [s1, s2, show errOf true = 0 from rfl] at C50
  have S3 := Lib.hid s3
  have HF := Lib.hid hF
  have HSL : Hid ((sharesL l x y).length = l.length) := Lib.hid hsl
  clear s1 s2 s3 ho he hF hsl hcl
  generalize costTo l x.toNat (cellsL l x y) (cellsL l x y).length = cst at *
  generalize cellsL l x y = own at *
  generalize sharesL l x y = shs at *
  have hcc : (cst != cst) = false := by simp
  go_wp2_with fail
  refine (C31.out w2 hE2).mono ?_
  rintro e w3 ⟨a2, c2, rfl, hSh, hY⟩
  have hX3 := hX2.trans' hY
  have hE3 := hEb.trans' hX3
  have hOw := hOw.ext hY
  clear hY g0 g1 hz
  have g0 := (HB.out.ext hX3).cellv 0 (v := .int .i64 x) rfl
  have g1 := (HB.out.ext hX3).cellv 1 (v := .int .i64 y) rfl
  have hz := (HB.out.ext hX3).lt
  go_wp2_with fail
  refine (C37.out w3 hE3 hOw).mono ?_
  rintro e w4 ⟨rfl, hY⟩
  have hX4 := hX3.trans' hY
  have hE4 := hEb.trans' hX4
  have hSh := hSh.ext hY
  clear hY g0 g1 hz
  have g0 := (HB.out.ext hX4).cellv 0 (v := .int .i64 x) rfl
  have g1 := (HB.out.ext hX4).cellv 1 (v := .int .i64 y) rfl
  have hz := (HB.out.ext hX4).lt
  go_wp2_with fail
  refine (C49.out w4 a2 c2 hE4 hSh).mono ?_
  rintro e w5 ⟨v5, rfl, hv5, hY⟩
  have hX5 := hX4.trans' hY
  have hE5 := hEb.trans' hX5
  have hSh := hSh.ext hY
  clear hY g0 g1 hz
  have g0 := (HB.out.ext hX5).cellv 0 (v := .int .i64 x) rfl
  have g1 := (HB.out.ext hX5).cellv 1 (v := .int .i64 y) rfl
  have hz := (HB.out.ext hX5).lt
  obtain rfl := S3.out v5 hv5
  clear hv5
  go_wp2_with fail
  refine (C50.out w5 a2 c2 hE5 hSh).mono ?_
  rintro e w6 ⟨rfl, hY⟩
  have hX6 := hX5.trans' hY
  have hE6 := hEb.trans' hX6
  clear hY g0 g1 hz
  have g0 := (HB.out.ext hX6).cellv 0 (v := .int .i64 x) rfl
  have g1 := (HB.out.ext hX6).cellv 1 (v := .int .i64 y) rfl
  have hz := (HB.out.ext hX6).lt
  clear C31 C37 C49 C50 S3 hSh hOw
  rcases errOf_cases2 (okOwned l x y Q) with ⟨hq, he⟩ | ⟨hq, he⟩
  case inr =>
    have C35 := fun W (h : Ext w W) => f35_c a b l.length c Q.length d l Q x y W (hl.ext h) (hQ.ext h) rfl rfl hlen hlm
    have C37 := fun W (h : Ext w W) => f37_c a b l.length c Q.length d l Q x y W (hl.ext h) (hQ.ext h) rfl rfl hlen hlm
    rw [he] at C35 C37
    have C35 := Lib.hid C35
    have C37 := Lib.hid C37
    clear hq he
    generalize countV l x y Q = cv at *
    generalize costV l x y Q = kv at *
    go_wp2_with fail
    refine (C35.out w6 hE6).mono ?_
    rintro e w7 ⟨a7, c7, rfl, hG, hY⟩
    have hX7 := hX6.trans' hY
    have hE7 := hEb.trans' hX7
    clear hY g0 g1 hz
    have g0 := (HB.out.ext hX7).cellv 0 (v := .int .i64 x) rfl
    have g1 := (HB.out.ext hX7).cellv 1 (v := .int .i64 y) rfl
    have hz := (HB.out.ext hX7).lt
    go_wp2_with fail
    refine (C37.out w7 hE7).mono ?_
    rintro e w8 ⟨rfl, hY⟩
    have hX8 := hX7.trans' hY
    have hE8 := hEb.trans' hX8
    clear hY g0 g1 hz
    have g0 := (HB.out.ext hX8).cellv 0 (v := .int .i64 x) rfl
    have g1 := (HB.out.ext hX8).cellv 1 (v := .int .i64 y) rfl
    have hz := (HB.out.ext hX8).lt
    go_wp2_with fail
    go_ret
    exact ⟨rfl, hE8⟩
  have C35 := fun W (h : Ext w W) => f35_c a b l.length c Q.length d l Q x y W (hl.ext h) (hQ.ext h) rfl rfl hlen hlm
  have C37 := fun W (h : Ext w W) => f37_c a b l.length c Q.length d l Q x y W (hl.ext h) (hQ.ext h) rfl rfl hlen hlm
  rw [he, countV_ok hq] at C35
  rw [he, costV_ok hq] at C37
  have C35 := Lib.hid C35
  have C37 := Lib.hid C37
  have HS := Lib.hid (count_shared hq)
  have HLe := Lib.hid (fun L P (h : BalOf l x y (countL l.length Q) L P) => bal_least hq h)
  have HSl : Hid ((countL l.length Q).length ≤ 40) := Lib.hid (by rw [countL_length]; omega)
  clear hq he
  generalize countL l.length Q = S at *
  generalize costTo l x.toNat Q Q.length = paid at *
  go_wp2_with fail
  refine (C35.out w6 hE6).mono ?_
  rintro e w7 ⟨a7, c7, rfl, hG, hY⟩
  have hX7 := hX6.trans' hY
  have hE7 := hEb.trans' hX7
  clear hY g0 g1 hz
  have g0 := (HB.out.ext hX7).cellv 0 (v := .int .i64 x) rfl
  have g1 := (HB.out.ext hX7).cellv 1 (v := .int .i64 y) rfl
  have hz := (HB.out.ext hX7).lt
  go_wp2_with fail
  refine (C37.out w7 hE7).mono ?_
  rintro e w8 ⟨rfl, hY⟩
  have hX8 := hX7.trans' hY
  have hE8 := hEb.trans' hX8
  have hG := hG.ext hY
  clear hY g0 g1 hz
  have g0 := (HB.out.ext hX8).cellv 0 (v := .int .i64 x) rfl
  have g1 := (HB.out.ext hX8).cellv 1 (v := .int .i64 y) rfl
  have hz := (HB.out.ext hX8).lt
  clear C35 C37
  have hSl := HSl.out
  have hSl2 : S.length ≤ 140737488355328 := by omega
  have C51 := Lib.hid (f51_c a a7 l.length c S.length c7 l S x y w8 (hl.ext hE8) hG rfl rfl hlen hSl2)
  have he := show errOf (okShared l x y S) = 0 by rw [HS.out]; rfl
  go_wp2_with fail
  refine C51.out.mono ?_
  rintro e w9 ⟨L, P, a8, c8, b8, d8, rfl, hL, hP, hbal, hY⟩
  rw [he]
  have HB2 := Lib.hid (bal_said HS.out hbal)
  have HB3 := Lib.hid (HLe.out L P hbal)
  have hLl := HB2.out.len
  have hPl : P.length ≤ 140737488355328 := by have := HB2.out.small; omega
  have hX9 := hX8.trans' hY
  have hE9 := hEb.trans' hX9
  have hG := hG.ext hY
  have hco : countV L x y P = S := by rw [countV_ok HB2.out.ownedL, hLl]; exact HB2.out.cnt
  have ho1 : errOf (okOwned L x y P) = 0 := by rw [HB2.out.ownedL]; rfl
  have ho2 : errOf (okOwned l x y P) = 0 := by rw [HB2.out.owned]; rfl
  have hs2 : errOf (okShared L x y S) = 0 := by rw [HB2.out.shared]; rfl
  have C35 := fun W (h : Ext w9 W) => f35_c a8 b8 l.length c8 P.length d8 L P x y W (hL.ext h) (hP.ext h) hLl rfl hlen hPl
  have C25 := fun W (h : Ext w9 W) => f25_c a8 b8 l.length c8 P.length d8 L P x y W (hL.ext h) (hP.ext h) hLl rfl hlen hPl
  have C37 := fun W (h : Ext w9 W) => f37_c a b8 l.length c P.length d8 l P x y W (hl.ext (hE9.trans' h)) (hP.ext h) rfl rfl hlen hPl
  have C50 := fun W (h : Ext w9 W) => f50_c a8 a7 l.length c8 S.length c7 L S x y W (hL.ext h) (hG.ext h) hLl rfl hlen hSl2
  rw [hco, ho1] at C35
  rw [HB2.out.fits, ho1] at C25
  rw [costV_ok HB2.out.owned, ho2] at C37
  rw [HB2.out.dual, hs2] at C50
  have C35 := Lib.hid C35
  have C25 := Lib.hid C25
  have C37 := Lib.hid C37
  have C50 := Lib.hid C50
  rw [hLl]
  clear hco ho1 ho2 hs2 hLl HB2 hbal HS he C51 HLe
  have hle := HB3.out
  generalize costTo l x.toNat P P.length = low at *
  have hd3 : decide (low ≤ paid) = true := decide_eq_true hle
  have hd4 : (low == low) = true := by simp
  clear hle HB3 g0 g1 hz
  have g0 := (HB.out.ext hX9).cellv 0 (v := .int .i64 x) rfl
  have g1 := (HB.out.ext hX9).cellv 1 (v := .int .i64 y) rfl
  have hz := (HB.out.ext hX9).lt
  have hZ9 : Ext w9 w9 := Below.refl _ w9
  go_wp2_with fail
  refine (C35.out w9 hZ9).mono ?_
  rintro e w10 ⟨a10, c10, rfl, hC, hY⟩
  have hX10 := hX9.trans' hY
  have hE10 := hEb.trans' hX10
  have hG := hG.ext hY
  have hZ10 := hY
  clear hY g0 g1 hz
  have g0 := (HB.out.ext hX10).cellv 0 (v := .int .i64 x) rfl
  have g1 := (HB.out.ext hX10).cellv 1 (v := .int .i64 y) rfl
  have hz := (HB.out.ext hX10).lt
  go_wp2_with fail
  refine (C25.out w10 hZ10).mono ?_
  rintro e w11 ⟨rfl, hY⟩
  have hX11 := hX10.trans' hY
  have hE11 := hEb.trans' hX11
  have hG := hG.ext hY
  have hC := hC.ext hY
  have hZ11 := hZ10.trans' hY
  clear hY g0 g1 hz
  have g0 := (HB.out.ext hX11).cellv 0 (v := .int .i64 x) rfl
  have g1 := (HB.out.ext hX11).cellv 1 (v := .int .i64 y) rfl
  have hz := (HB.out.ext hX11).lt
  go_wp2_with fail
  refine (C37.out w11 hZ11).mono ?_
  rintro e w12 ⟨rfl, hY⟩
  have hX12 := hX11.trans' hY
  have hE12 := hEb.trans' hX12
  have hG := hG.ext hY
  have hC := hC.ext hY
  have hZ12 := hZ11.trans' hY
  clear hY g0 g1 hz
  have g0 := (HB.out.ext hX12).cellv 0 (v := .int .i64 x) rfl
  have g1 := (HB.out.ext hX12).cellv 1 (v := .int .i64 y) rfl
  have hz := (HB.out.ext hX12).lt
  go_wp2_with fail
  refine (C50.out w12 hZ12).mono ?_
  rintro e w13 ⟨rfl, hY⟩
  have hX13 := hX12.trans' hY
  have hE13 := hEb.trans' hX13
  have hG := hG.ext hY
  have hC := hC.ext hY
  clear hY g0 g1 hz
  have g0 := (HB.out.ext hX13).cellv 0 (v := .int .i64 x) rfl
  have g1 := (HB.out.ext hX13).cellv 1 (v := .int .i64 y) rfl
  have hz := (HB.out.ext hX13).lt
  clear C35 C25 C37 C50
  have C19 := f19_c a10 a7 S.length S.length c10 c7 S S w13 hC hG rfl rfl hSl2 hSl2
  rw [decide_eq_true rfl] at C19
  go_wp2_with fail
  refine C19.mono ?_
  rintro e w14 ⟨rfl, hY⟩
  have hE14 := hE13.trans' hY
  go_wp2_with fail
  go_ret
  exact ⟨rfl, hE14⟩
end Go.Proofs.Ytodlbgncdggimaa
