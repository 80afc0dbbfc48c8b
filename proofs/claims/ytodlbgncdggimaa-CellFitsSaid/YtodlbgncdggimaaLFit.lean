/- CellFits: the law's walk. -/
import Derived.Test.YtodlbgncdggimaaT19
import Derived.Test.YtodlbgncdggimaaP3
import Derived.Test.YtodlbgncdggimaaLGro
namespace Go.Proofs.Ytodlbgncdggimaa
open Go.RowKit
attribute [local go_sem] GW.cell

set_option maxHeartbeats 4000000 in
theorem lawFits (w : World) (a : Option Addr) (n c : Nat) (l : List Site) (hl : Sites w a l) (hn : l.length = n) (x y : Int) (b : Option Addr) (m d : Nat) (O : List Int) (hO : Ints w b O) (hm : O.length = m) :
    Calls Try.prog 5 #[.slice a n c, .agg #[.int .i64 x, .int .i64 y], .slice b m d] w fun e w' => e = .returned (.bool true) ∧ Ext w w' := by
  subst hn hm
  have hEb := ext_alloc w (.cells #[.int .i64 x, .int .i64 y] 24)
  by_cases h40 : 40 < l.length
  · have hd : decide (40 < (l.length : Int)) = true := by simp; omega
    go_enter Try.func5, Try.ntmps5
    go_wp2_with fail
    refine (f17_c _).mono ?_
    rintro e w1 ⟨rfl, hE⟩
    go_wp2_with fail
    go_ret
    exact ⟨rfl, hEb.trans' hE⟩
  have hd : decide (40 < (l.length : Int)) = false := by simp; omega
  have hlen : l.length ≤ 140737488355328 := by omega
  by_cases h200 : 200 < O.length
  · have hd2 : decide (200 < (O.length : Int)) = true := by simp; omega
    go_enter Try.func5, Try.ntmps5
    go_wp2_with fail
    refine (f24_c _ _ _ _).mono ?_
    rintro e w1 ⟨rfl, rfl⟩
    rw [hd2]
    go_wp2_with fail
    refine (f17_c _).mono ?_
    rintro e w1 ⟨rfl, hE⟩
    go_wp2_with fail
    go_ret
    exact ⟨rfl, hEb.trans' hE⟩
  have hd2 : decide (200 < (O.length : Int)) = false := by simp; omega
  have hlm : O.length ≤ 140737488355328 := by omega
  have Heb := Lib.hid hEb
  have Hd2 := Lib.hid hd2
  have H25 := Lib.hid (fun W (h : Sites W a l) (k : Ints W b O) => f25_c a b l.length c O.length d l O x y W h k rfl rfl hlen hlm)
  have H26 := Lib.hid (fun W (h : Sites W a l) (k : Ints W b O) => f26_c a b l.length c O.length d l O x y W h k rfl rfl hlen hlm)
  generalize fitsVal l x y O = V at *
  generalize errOf (okOwned l x y O) = E at *
  have hV : (V != V) = false := by simp
  have hE' : (E != E) = false := by simp
  have hc := fun W (h : Sites W a l) => f18_c a l.length c l x y W h rfl hlen
  clear hEb hd2
  rcases errOf_cases (okField l x y) with ⟨hok, he⟩ | ⟨hok, he⟩
  · simp only [he] at hc
    have Hc := Lib.hid hc
    have hck := cells_len l x y
    have hfit := fun W a1 c1 (h : Sites W a l) (k : Ints W a1 (cellsL l x y)) => f25_c a a1 l.length c _ c1 l (cellsL l x y) x y W h k rfl rfl hlen (by omega)
    have hv1 := cells_fit hok
    have hv2 : errOf (okOwned l x y (cellsL l x y)) = 0 := by rw [cells_owned hok]; rfl
    simp only [hv1, hv2] at hfit
    have Hfit := Lib.hid hfit
    clear hc hfit hv1 hv2 he hok
    go_enter Try.func5, Try.ntmps5
    go_wp2_with fail
    refine (f24_c _ _ _ _).mono ?_
    rintro e w1 ⟨rfl, rfl⟩
    rw [Hd2.out]
    go_wp2_with fail
    refine (H25.out _ (hl.ext Heb.out) (hO.ext Heb.out)).mono ?_
    rintro e w1 ⟨rfl, hE1⟩
    have g0 : w1.cell? ⟨w.heap.size, 0, none⟩ = some (.int .i64 x) := (hE1.cell' (by simp)).trans (by simp)
    have g1 : w1.cell? ⟨w.heap.size, 1, none⟩ = some (.int .i64 y) := (hE1.cell' (by simp)).trans (by simp)
    have hsz := hE1.size
    simp only [World.size_alloc] at hsz
    have hE1' := Heb.out.trans' hE1
    clear hE1 Heb H25 Hd2
    go_wp2_with fail
    refine (H26.out _ (hl.ext hE1') (hO.ext hE1')).mono ?_
    rintro e w2 ⟨rfl, hE2⟩
    have g0' := (hE2.cell' (by omega)).trans g0
    have g1' := (hE2.cell' (by omega)).trans g1
    have hE2' := hE1'.trans' hE2
    have hsz2 := hE2.size
    clear g0 g1 hE2 H26
    go_wp2_with fail
    refine (Hc.out _ (hl.ext hE2')).mono ?_
    rintro e w3 ⟨a1, c1, rfl, hI, hE3⟩
    have g0 := (hE3.cell' (by omega)).trans g0'
    have g1 := (hE3.cell' (by omega)).trans g1'
    have hE3' := hE2'.trans' hE3
    clear g0' g1' hE3 Hc
    go_wp2_with fail
    refine (Hfit.out _ _ _ (hl.ext hE3') hI).mono ?_
    rintro e w4 ⟨rfl, hE4⟩
    clear Hfit
    go_wp2_with fail
    refine (f17_c _).mono ?_
    rintro e w5 ⟨rfl, hE5⟩
    go_wp2_with fail
    go_ret
    exact ⟨rfl, hE3'.trans' (hE4.trans' hE5)⟩
  · simp only [he] at hc
    have Hc := Lib.hid hc
    clear hc he hok
    go_enter Try.func5, Try.ntmps5
    go_wp2_with fail
    refine (f24_c _ _ _ _).mono ?_
    rintro e w1 ⟨rfl, rfl⟩
    rw [Hd2.out]
    go_wp2_with fail
    refine (H25.out _ (hl.ext Heb.out) (hO.ext Heb.out)).mono ?_
    rintro e w1 ⟨rfl, hE1⟩
    have g0 : w1.cell? ⟨w.heap.size, 0, none⟩ = some (.int .i64 x) := (hE1.cell' (by simp)).trans (by simp)
    have g1 : w1.cell? ⟨w.heap.size, 1, none⟩ = some (.int .i64 y) := (hE1.cell' (by simp)).trans (by simp)
    have hsz := hE1.size
    simp only [World.size_alloc] at hsz
    have hE1' := Heb.out.trans' hE1
    clear hE1 Heb H25 Hd2
    go_wp2_with fail
    refine (H26.out _ (hl.ext hE1') (hO.ext hE1')).mono ?_
    rintro e w2 ⟨rfl, hE2⟩
    have g0' := (hE2.cell' (by omega)).trans g0
    have g1' := (hE2.cell' (by omega)).trans g1
    have hE2' := hE1'.trans' hE2
    clear g0 g1 hE2 H26
    go_wp2_with fail
    refine (Hc.out _ (hl.ext hE2')).mono ?_
    rintro e w3 ⟨a1, c1, rfl, hI, hE3⟩
    clear Hc
    go_wp2_with fail
    refine (f17_c _).mono ?_
    rintro e w5 ⟨rfl, hE5⟩
    go_wp2_with fail
    go_ret
    exact ⟨rfl, hE2'.trans' (hE3.trans' hE5)⟩
end Go.Proofs.Ytodlbgncdggimaa
