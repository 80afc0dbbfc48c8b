/- CellShares: the law's walk. -/
import Derived.Test.YtodlbgncdggimaaT24
namespace Go.Proofs.Ytodlbgncdggimaa
open Go.RowKit
attribute [local go_sem] GW.cell

theorem shares_len (l : List Site) (x y : Int) : (sharesL l x y).length ≤ l.length := by
  unfold sharesL
  split
  · rw [countL_length]; exact Nat.le_refl _
  · simp
theorem free_len (l : List Site) (x y : Int) : (freeL l x y).length ≤ 144 := by
  unfold freeL
  split
  · rename_i h
    obtain ⟨_, h1, h2, h3, h4⟩ := okField_bd h
    exact Nat.le_trans (freeTo_len _ _ _) (Nat.le_trans (Nat.mul_le_mul (show x.toNat ≤ 12 by omega) (show y.toNat ≤ 12 by omega)) (by omega))
  · simp

set_option maxHeartbeats 4000000 in
theorem lawShares (w : World) (a : Option Addr) (n c : Nat) (l : List Site) (hl : Sites w a l) (hn : l.length = n) (x y : Int) :
    Calls Try.prog 8 #[.slice a n c, .agg #[.int .i64 x, .int .i64 y]] w fun e w' => e = .returned (.bool true) ∧ Ext w w' := by
  subst hn
  have hEb := ext_alloc w (.cells #[.int .i64 x, .int .i64 y] 24)
  by_cases h40 : 40 < l.length
  · have hd : decide (40 < (l.length : Int)) = true := by simp; omega
    go_enter Try.func8, Try.ntmps8
    go_wp2_with fail
    refine (f17_c _).mono ?_
    rintro e w1 ⟨rfl, hE⟩
    go_wp2_with fail
    go_ret
    exact ⟨rfl, hEb.trans' hE⟩
  have hd : decide (40 < (l.length : Int)) = false := by simp; omega
  have hlen : l.length ≤ 140737488355328 := by omega
  have Heb := Lib.hid hEb
  have hk1 := cells_len l x y
  have hk2 := shares_len l x y
  have hk3 := free_len l x y
  have H18 := Lib.hid (fun W (h : Sites W a l) => f18_c a l.length c l x y W h rfl hlen)
  have H30 := Lib.hid (fun W (h : Sites W a l) => f30_c a l.length c l x y W h rfl hlen)
  have H31 := Lib.hid (fun W (h : Sites W a l) => f31_c a l.length c l x y W h rfl hlen)
  have H32 := Lib.hid (fun W (h : Sites W a l) => f32_c a l.length c l x y W h rfl hlen)
  have H33 := Lib.hid (fun W (h : Sites W a l) => f33_c a l.length c l x y W h rfl hlen)
  have H34 := Lib.hid (fun W (h : Sites W a l) => f34_c a l.length c l x y W h rfl hlen)
  generalize cellsL l x y = A at *
  generalize sharesL l x y = B at *
  generalize freeL l x y = C at *
  generalize errOf (okField l x y) = E at *
  have hE0 : (E == E) = true := by simp
  clear hEb
  have hb0 : (w.alloc (.cells #[.int .i64 x, .int .i64 y] 24)).cell? ⟨w.heap.size, 0, none⟩ = some (.int .i64 x) := by simp
  have hb1 : (w.alloc (.cells #[.int .i64 x, .int .i64 y] 24)).cell? ⟨w.heap.size, 1, none⟩ = some (.int .i64 y) := by simp
  have Hb0 := Lib.hid hb0
  have Hb1 := Lib.hid hb1
  have hsz : w.heap.size < (w.alloc (.cells #[.int .i64 x, .int .i64 y] 24)).heap.size := by simp
  have Hsz := Lib.hid hsz
  clear hb0 hb1 hsz
  go_enter Try.func8, Try.ntmps8
  go_wp2_with fail
  generalize (w.alloc (.cells #[.int .i64 x, .int .i64 y] 24)) = w0 at *
  refine (H18.out _ (hl.ext Heb.out)).mono ?_
  rintro e w1 ⟨a1, c1, rfl, hI1, hE1⟩
  have g0 := (hE1.cell' Hsz.out).trans Hb0.out
  have g1 := (hE1.cell' Hsz.out).trans Hb1.out
  clear H18
  go_wp2_with fail
  refine (H30.out _ (hl.ext (Heb.out.trans' hE1))).mono ?_
  rintro e w2 ⟨a2, c2, rfl, hI2, hE2'⟩
  have hE2 := hE1.trans' hE2'
  have g0 := (hE2.cell' Hsz.out).trans Hb0.out
  have g1 := (hE2.cell' Hsz.out).trans Hb1.out
  clear H30
  go_wp2_with fail
  refine (H31.out _ (hl.ext (Heb.out.trans' hE2))).mono ?_
  rintro e w3 ⟨a3, c3, rfl, hI3, hE3'⟩
  have hE3 := hE2.trans' hE3'
  have g0 := (hE3.cell' Hsz.out).trans Hb0.out
  have g1 := (hE3.cell' Hsz.out).trans Hb1.out
  clear H31
  go_wp2_with fail
  refine (H32.out _ (hl.ext (Heb.out.trans' hE3))).mono ?_
  rintro e w4 ⟨a4, c4, rfl, hI4, hE4'⟩
  have hE4 := hE3.trans' hE4'
  have g0 := (hE4.cell' Hsz.out).trans Hb0.out
  have g1 := (hE4.cell' Hsz.out).trans Hb1.out
  clear H32
  go_wp2_with fail
  refine (H33.out _ (hl.ext (Heb.out.trans' hE4))).mono ?_
  rintro e w5 ⟨a5, c5, rfl, hI5, hE5'⟩
  have hE5 := hE4.trans' hE5'
  have g0 := (hE5.cell' Hsz.out).trans Hb0.out
  have g1 := (hE5.cell' Hsz.out).trans Hb1.out
  clear H33
  go_wp2_with fail
  refine (H34.out _ (hl.ext (Heb.out.trans' hE5))).mono ?_
  rintro e w6 ⟨a6, c6, rfl, hI6, hE6'⟩
  have hE6 := hE5.trans' hE6'
  clear H34
  go_wp2_with fail
  refine (f19_c a1 a2 _ _ c1 c2 A A w6 (hI1.ext (hE2'.trans' (hE3'.trans' (hE4'.trans' (hE5'.trans' hE6'))))) (hI2.ext (hE3'.trans' (hE4'.trans' (hE5'.trans' hE6')))) rfl rfl (by omega) (by omega)).mono ?_
  rintro e w7 ⟨rfl, hE7⟩
  rw [show decide (A = A) = true by simp]
  go_wp2_with fail
  refine (f19_c a3 a4 _ _ c3 c4 B B w7 (hI3.ext (hE4'.trans' (hE5'.trans' (hE6'.trans' hE7)))) (hI4.ext (hE5'.trans' (hE6'.trans' hE7))) rfl rfl (by omega) (by omega)).mono ?_
  rintro e w8 ⟨rfl, hE8⟩
  rw [show decide (B = B) = true by simp]
  go_wp2_with fail
  refine (f19_c a5 a6 _ _ c5 c6 C C w8 (hI5.ext (hE6'.trans' (hE7.trans' hE8))) (hI6.ext (hE7.trans' hE8)) rfl rfl (by omega) (by omega)).mono ?_
  rintro e w9 ⟨rfl, hE9⟩
  rw [show decide (C = C) = true by simp]
  go_wp2_with fail
  refine (f17_c _).mono ?_
  rintro e w10 ⟨rfl, hE10⟩
  go_wp2_with fail
  go_ret
  exact ⟨rfl, Heb.out.trans' (hE6.trans' (hE7.trans' (hE8.trans' (hE9.trans' hE10))))⟩
end Go.Proofs.Ytodlbgncdggimaa
