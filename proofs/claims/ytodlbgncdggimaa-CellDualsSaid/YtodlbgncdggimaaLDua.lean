/- CellDuals: the law's walk. -/
import Derived.Test.YtodlbgncdggimaaT38
import Derived.Test.YtodlbgncdggimaaLGro
import Derived.Test.YtodlbgncdggimaaLCos
namespace Go.Proofs.Ytodlbgncdggimaa
open Go.RowKit
attribute [local go_sem] GW.cell

set_option maxHeartbeats 8000000 in
theorem lawDuals (w : World) (a : Option Addr) (n c : Nat) (l : List Site) (hl : Sites w a l) (hn : l.length = n) (x y : Int) (b : Option Addr) (m d : Nat) (O : List Int) (hO : Ints w b O) (hm : O.length = m) :
    Calls Try.prog 15 #[.slice a n c, .agg #[.int .i64 x, .int .i64 y], .slice b m d] w fun e w' => e = .returned (.bool true) ∧ Ext w w' := by
  subst hn hm
  have hEb := ext_alloc w (.cells #[.int .i64 x, .int .i64 y] 24)
  by_cases h40 : 40 < l.length
  · have hd : decide (40 < (l.length : Int)) = true := by simp; omega
    go_enter Try.func15, Try.ntmps15
    go_wp2_with fail
    refine (f17_c _).mono ?_
    rintro e w1 ⟨rfl, hE⟩
    go_wp2_with fail
    go_ret
    exact ⟨rfl, hEb.trans' hE⟩
  have hd : decide (40 < (l.length : Int)) = false := by simp; omega
  have hlen : l.length ≤ 140737488355328 := by omega
  by_cases h200 : 200 < O.length
  · have hd2 : decide (200 < (O.length : Int)) = true := by simp; omega
    go_enter Try.func15, Try.ntmps15
    go_wp2_with fail
    refine (f24_c _ _ _ _).mono ?_
    rintro e w1 ⟨rfl, rfl⟩
    rw [hd2]
    go_wp2_with fail
    refine (f17_c _).mono ?_
    rintro e w1 ⟨rfl, hE⟩
    go_wp2_with fail
    go_ret
    exact ⟨rfl, hEb.trans' hE⟩
  have hd2 : decide (200 < (O.length : Int)) = false := by simp; omega
  have hlm : O.length ≤ 140737488355328 := by omega
  have Heb := Lib.hid hEb
  have Hd2 := Lib.hid hd2
  have hb0 : (w.alloc (.cells #[.int .i64 x, .int .i64 y] 24)).cell? ⟨w.heap.size, 0, none⟩ = some (.int .i64 x) := by simp
  have hb1 : (w.alloc (.cells #[.int .i64 x, .int .i64 y] 24)).cell? ⟨w.heap.size, 1, none⟩ = some (.int .i64 y) := by simp
  have Hb0 := Lib.hid hb0
  have Hb1 := Lib.hid hb1
  have hsz : w.heap.size < (w.alloc (.cells #[.int .i64 x, .int .i64 y] 24)).heap.size := by simp
  have Hsz := Lib.hid hsz
  have hk1 := count_len l x y O
  have h35 := fun W (h : Sites W a l) (k : Ints W b O) => f35_c a b l.length c O.length d l O x y W h k rfl rfl hlen hlm
  rcases errOf_cases2 (okOwned l x y O) with ⟨hok, he⟩ | ⟨hok, he⟩
  · obtain ⟨hle, hiff⟩ := duals_said hok
    have hcs := count_shared hok
    rw [he, countV_ok hok] at h35
    rw [countV_ok hok] at hk1
    have h50 := fun W a1 c1 (h : Sites W a l) (k : Ints W a1 (countL l.length O)) => f50_c a a1 l.length c (countL l.length O).length c1 l (countL l.length O) x y W h k rfl rfl hlen (by omega)
    have h53 := fun W a1 c1 (h : Sites W a l) (k : Ints W a1 (countL l.length O)) => f53_c a a1 l.length c (countL l.length O).length c1 l (countL l.length O) x y W h k rfl rfl hlen (by omega)
    have h37 := fun W (h : Sites W a l) (k : Ints W b O) => f37_c a b l.length c O.length d l O x y W h k rfl rfl hlen hlm
    have h25 := fun W (h : Sites W a l) (k : Ints W b O) => f25_c a b l.length c O.length d l O x y W h k rfl rfl hlen hlm
    rw [show errOf (okShared l x y (countL l.length O)) = 0 by rw [hcs]; rfl] at h50 h53
    rw [he] at h25 h37
    rw [costV_ok hok] at h37
    generalize countL l.length O = A at *
    generalize dualV l x y A = V at *
    generalize costTo l x.toNat O O.length = C at *
    generalize fitsVal l x y O = F at *
    have H35 := Lib.hid h35
    have H50 := Lib.hid h50
    have H53 := Lib.hid h53
    have H37 := Lib.hid h37
    have H25 := Lib.hid h25
    have hV0 : (V == V) = true := by simp
    have hd4 : decide (V ≤ C) = true := by simpa using hle
    have hd5 : (V == C) = F := by
      cases F with
      | true => simpa using hiff
      | false => simpa using hiff
    have hF0 : (F == F) = true := by simp
    clear hEb hd2 hb0 hb1 hsz h35 h50 h53 h37 h25 he hok hle hiff hcs
    go_enter Try.func15, Try.ntmps15
    go_wp2_with fail
    refine (f24_c _ _ _ _).mono ?_
    rintro e w1 ⟨rfl, rfl⟩
    rw [Hd2.out]
    go_wp2_with fail
    generalize (w.alloc (.cells #[.int .i64 x, .int .i64 y] 24)) = w0 at *
    refine (H35.out _ (hl.ext Heb.out) (hO.ext Heb.out)).mono ?_
    rintro e w1 ⟨a1, c1, rfl, hI1, hE1'⟩
    have hE1 := hE1'
    have g0 := (hE1.cell' Hsz.out).trans Hb0.out
    have g1 := (hE1.cell' Hsz.out).trans Hb1.out
    clear H35
    go_wp2_with fail
    refine (H50.out _ _ _ (hl.ext (Heb.out.trans' hE1)) hI1).mono ?_
    rintro e w2 ⟨rfl, hE2'⟩
    have hE2 := hE1.trans' hE2'
    have g0 := (hE2.cell' Hsz.out).trans Hb0.out
    have g1 := (hE2.cell' Hsz.out).trans Hb1.out
    have hI2 := hI1.ext hE2'
    clear H50
    go_wp2_with fail
    refine (H53.out _ _ _ (hl.ext (Heb.out.trans' hE2)) hI2).mono ?_
    rintro e w3 ⟨rfl, hE3'⟩
    have hE3 := hE2.trans' hE3'
    have g0 := (hE3.cell' Hsz.out).trans Hb0.out
    have g1 := (hE3.cell' Hsz.out).trans Hb1.out
    clear H53
    go_wp2_with fail
    refine (H37.out _ (hl.ext (Heb.out.trans' hE3)) (hO.ext (Heb.out.trans' hE3))).mono ?_
    rintro e w4 ⟨rfl, hE4'⟩
    have hE4 := hE3.trans' hE4'
    have g0 := (hE4.cell' Hsz.out).trans Hb0.out
    have g1 := (hE4.cell' Hsz.out).trans Hb1.out
    clear H37
    go_wp2_with fail
    refine (H25.out _ (hl.ext (Heb.out.trans' hE4)) (hO.ext (Heb.out.trans' hE4))).mono ?_
    rintro e w5 ⟨rfl, hE5'⟩
    have hE5 := hE4.trans' hE5'
    have g0 := (hE5.cell' Hsz.out).trans Hb0.out
    have g1 := (hE5.cell' Hsz.out).trans Hb1.out
    clear H25
    go_wp2_with fail
    refine (f17_c _).mono ?_
    rintro e w9 ⟨rfl, hE9⟩
    go_wp2_with fail
    go_ret
    exact ⟨rfl, Heb.out.trans' (hE5.trans' hE9)⟩
  · have h50 := fun W (h : Sites W a l) (k : Ints W b O) => f50_c a b l.length c O.length d l O x y W h k rfl rfl hlen hlm
    have h53 := fun W (h : Sites W a l) (k : Ints W b O) => f53_c a b l.length c O.length d l O x y W h k rfl rfl hlen hlm
    rw [he] at h35
    generalize countV l x y O = A at *
    generalize dualV l x y O = V at *
    generalize errOf (okShared l x y O) = E at *
    have H35 := Lib.hid h35
    have H50 := Lib.hid h50
    have H53 := Lib.hid h53
    have hE0 : (E == E) = true := by simp
    have hV0 : (V == V) = true := by simp
    clear hEb hd2 hb0 hb1 hsz h35 h50 h53 he hok
    go_enter Try.func15, Try.ntmps15
    go_wp2_with fail
    refine (f24_c _ _ _ _).mono ?_
    rintro e w1 ⟨rfl, rfl⟩
    rw [Hd2.out]
    go_wp2_with fail
    generalize (w.alloc (.cells #[.int .i64 x, .int .i64 y] 24)) = w0 at *
    refine (H35.out _ (hl.ext Heb.out) (hO.ext Heb.out)).mono ?_
    rintro e w1 ⟨a1, c1, rfl, hI1, hE1'⟩
    have hE1 := hE1'
    have g0 := (hE1.cell' Hsz.out).trans Hb0.out
    have g1 := (hE1.cell' Hsz.out).trans Hb1.out
    clear H35
    go_wp2_with fail
    refine (H50.out _ (hl.ext (Heb.out.trans' hE1)) (hO.ext (Heb.out.trans' hE1))).mono ?_
    rintro e w2 ⟨rfl, hE2'⟩
    have hE2 := hE1.trans' hE2'
    have g0 := (hE2.cell' Hsz.out).trans Hb0.out
    have g1 := (hE2.cell' Hsz.out).trans Hb1.out
    clear H50
    go_wp2_with fail
    refine (H53.out _ (hl.ext (Heb.out.trans' hE2)) (hO.ext (Heb.out.trans' hE2))).mono ?_
    rintro e w3 ⟨rfl, hE3'⟩
    have hE3 := hE2.trans' hE3'
    have g0 := (hE3.cell' Hsz.out).trans Hb0.out
    have g1 := (hE3.cell' Hsz.out).trans Hb1.out
    clear H53
    go_wp2_with fail
    refine (f17_c _).mono ?_
    rintro e w9 ⟨rfl, hE9⟩
    go_wp2_with fail
    go_ret
    exact ⟨rfl, Heb.out.trans' (hE3.trans' hE9)⟩
end Go.Proofs.Ytodlbgncdggimaa
