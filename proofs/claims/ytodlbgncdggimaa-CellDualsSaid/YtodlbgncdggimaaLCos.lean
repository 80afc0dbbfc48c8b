/- CellCosts: the law's walk. -/
import Derived.Test.YtodlbgncdggimaaT27
namespace Go.Proofs.Ytodlbgncdggimaa
open Go.RowKit
attribute [local go_sem] GW.cell

theorem count_len (l : List Site) (x y : Int) (O : List Int) : (countV l x y O).length ≤ l.length := by
  unfold countV
  split
  · rw [countL_length]; exact Nat.le_refl _
  · simp

set_option maxHeartbeats 4000000 in
theorem lawCosts (w : World) (a : Option Addr) (n c : Nat) (l : List Site) (hl : Sites w a l) (hn : l.length = n) (x y : Int) (b : Option Addr) (m d : Nat) (O : List Int) (hO : Ints w b O) (hm : O.length = m) :
    Calls Try.prog 9 #[.slice a n c, .agg #[.int .i64 x, .int .i64 y], .slice b m d] w fun e w' => e = .returned (.bool true) ∧ Ext w w' := by
  subst hn hm
  have hEb := ext_alloc w (.cells #[.int .i64 x, .int .i64 y] 24)
  by_cases h40 : 40 < l.length
  · have hd : decide (40 < (l.length : Int)) = true := by simp; omega
    go_enter Try.func9, Try.ntmps9
    go_wp2_with fail
    refine (f17_c _).mono ?_
    rintro e w1 ⟨rfl, hE⟩
    go_wp2_with fail
    go_ret
    exact ⟨rfl, hEb.trans' hE⟩
  have hd : decide (40 < (l.length : Int)) = false := by simp; omega
  have hlen : l.length ≤ 140737488355328 := by omega
  by_cases h200 : 200 < O.length
  · have hd2 : decide (200 < (O.length : Int)) = true := by simp; omega
    go_enter Try.func9, Try.ntmps9
    go_wp2_with fail
    refine (f24_c _ _ _ _).mono ?_
    rintro e w1 ⟨rfl, rfl⟩
    rw [hd2]
    go_wp2_with fail
    refine (f17_c _).mono ?_
    rintro e w1 ⟨rfl, hE⟩
    go_wp2_with fail
    go_ret
    exact ⟨rfl, hEb.trans' hE⟩
  have hd2 : decide (200 < (O.length : Int)) = false := by simp; omega
  have hlm : O.length ≤ 140737488355328 := by omega
  have Heb := Lib.hid hEb
  have Hd2 := Lib.hid hd2
  have hk1 := count_len l x y O
  have H35 := Lib.hid (fun W (h : Sites W a l) (k : Ints W b O) => f35_c a b l.length c O.length d l O x y W h k rfl rfl hlen hlm)
  have H36 := Lib.hid (fun W (h : Sites W a l) (k : Ints W b O) => f36_c a b l.length c O.length d l O x y W h k rfl rfl hlen hlm)
  have H37 := Lib.hid (fun W (h : Sites W a l) (k : Ints W b O) => f37_c a b l.length c O.length d l O x y W h k rfl rfl hlen hlm)
  have H38 := Lib.hid (fun W (h : Sites W a l) (k : Ints W b O) => f38_c a b l.length c O.length d l O x y W h k rfl rfl hlen hlm)
  generalize countV l x y O = A at *
  generalize costV l x y O = V at *
  generalize errOf (okOwned l x y O) = E at *
  have hE0 : (E == E) = true := by simp
  have hV0 : (V == V) = true := by simp
  have hb0 : (w.alloc (.cells #[.int .i64 x, .int .i64 y] 24)).cell? ⟨w.heap.size, 0, none⟩ = some (.int .i64 x) := by simp
  have hb1 : (w.alloc (.cells #[.int .i64 x, .int .i64 y] 24)).cell? ⟨w.heap.size, 1, none⟩ = some (.int .i64 y) := by simp
  have Hb0 := Lib.hid hb0
  have Hb1 := Lib.hid hb1
  have hsz : w.heap.size < (w.alloc (.cells #[.int .i64 x, .int .i64 y] 24)).heap.size := by simp
  have Hsz := Lib.hid hsz
  clear hEb hd2 hb0 hb1 hsz
  go_enter Try.func9, Try.ntmps9
  go_wp2_with fail
  refine (f24_c _ _ _ _).mono ?_
  rintro e w1 ⟨rfl, rfl⟩
  rw [Hd2.out]
  go_wp2_with fail
  generalize (w.alloc (.cells #[.int .i64 x, .int .i64 y] 24)) = w0 at *
  refine (H35.out _ (hl.ext Heb.out) (hO.ext Heb.out)).mono ?_
  rintro e w1 ⟨a1, c1, rfl, hI1, hE1⟩
  have g0 := (hE1.cell' Hsz.out).trans Hb0.out
  have g1 := (hE1.cell' Hsz.out).trans Hb1.out
  clear H35
  go_wp2_with fail
  refine (H36.out _ (hl.ext (Heb.out.trans' hE1)) (hO.ext (Heb.out.trans' hE1))).mono ?_
  rintro e w2 ⟨a2, c2, rfl, hI2, hE2'⟩
  have hE2 := hE1.trans' hE2'
  have g0 := (hE2.cell' Hsz.out).trans Hb0.out
  have g1 := (hE2.cell' Hsz.out).trans Hb1.out
  clear H36
  go_wp2_with fail
  refine (H37.out _ (hl.ext (Heb.out.trans' hE2)) (hO.ext (Heb.out.trans' hE2))).mono ?_
  rintro e w3 ⟨rfl, hE3'⟩
  have hE3 := hE2.trans' hE3'
  have g0 := (hE3.cell' Hsz.out).trans Hb0.out
  have g1 := (hE3.cell' Hsz.out).trans Hb1.out
  clear H37
  go_wp2_with fail
  refine (H38.out _ (hl.ext (Heb.out.trans' hE3)) (hO.ext (Heb.out.trans' hE3))).mono ?_
  rintro e w4 ⟨rfl, hE4'⟩
  have hE4 := hE3.trans' hE4'
  clear H38
  go_wp2_with fail
  refine (f19_c a1 a2 _ _ c1 c2 A A w4 (hI1.ext (hE2'.trans' (hE3'.trans' hE4'))) (hI2.ext (hE3'.trans' hE4')) rfl rfl (by omega) (by omega)).mono ?_
  rintro e w5 ⟨rfl, hE5⟩
  rw [show decide (A = A) = true by simp]
  go_wp2_with fail
  refine (f17_c _).mono ?_
  rintro e w6 ⟨rfl, hE6⟩
  go_wp2_with fail
  go_ret
  exact ⟨rfl, Heb.out.trans' (hE4.trans' (hE5.trans' hE6))⟩
end Go.Proofs.Ytodlbgncdggimaa
