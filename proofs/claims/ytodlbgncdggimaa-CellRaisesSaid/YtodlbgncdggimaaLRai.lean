/- CellRaises: the law's walk. -/
import Derived.Test.YtodlbgncdggimaaT14
namespace Go.Proofs.Ytodlbgncdggimaa
open Go.RowKit
attribute [local go_sem] GW.cell

theorem raised_len (l : List Site) (i y : Int) : (raised l i y).length ≤ l.length := by
  unfold raised; split <;> simp

set_option maxHeartbeats 2000000 in
theorem lawRaises (w : World) (a : Option Addr) (n c : Nat) (l : List Site) (hl : Sites w a l) (hn : l.length = n) (i y : Int) :
    Calls Try.prog 6 #[.slice a n c, .int .i64 i, .int .i64 y] w fun e w' => e = .returned (.bool true) ∧ Ext w w' := by
  subst hn
  by_cases h40 : 40 < l.length
  · have hd : decide (40 < (l.length : Int)) = true := by simp; omega
    go_enter Try.func6, Try.ntmps6
    go_wp2_with fail
    refine (f17_c _).mono ?_
    rintro e w1 ⟨rfl, hE⟩
    go_wp2_with fail
    go_ret
    exact ⟨rfl, hE⟩
  · have hd : decide (40 < (l.length : Int)) = false := by simp; omega
    have hlen : l.length ≤ 1000000 := by omega
    have hlr := raised_len l i y
    obtain ⟨i0, hi0⟩ := info_parts info31
    have Hi := Lib.hid hi0
    have Hrow := Lib.hid (row_empty w 31 3)
    have Hr := Lib.hid (reads_sites (hl.ext (ext_alloc w (.cells #[] 31))))
    clear hi0
    go_enter Try.func6, Try.ntmps6
    go_wp2_with (at_builtin; refine wpList_append_any _ rfl (.tmp 16) (.tmp 17) 22 rfl w.heap.size 31 i0 _ 3 24 Try.underlying22 Hi.out.1 Hi.out.2.1 Hi.out.2.2.1 Hi.out.2.2.2 rfl (by omega) (.slice (some ⟨w.heap.size, 0, none⟩) 0 0) 0 [] rfl Hrow.out _ a l.length c (sitesV l) rfl Hr.out (sitesV_one_cell l) (by unfold maxLen; omega) (by omega) (by simp) ?_; intro v' w1 hown hgrow hat; have hrow : w1.ownsRow w.heap.size 31 3 v' l.length (sitesV l) := (by simpa using hown); have hE1 := ext_grow (ext_alloc w (.cells #[] 31)) Hrow.out (Nat.le_refl _) hgrow; clear hat hgrow hown; obtain ⟨a1, c1, rfl, hs1⟩ := sites_of_row hrow; clear hrow)
    refine (f27_c a1 l.length c1 l i y w1 hs1 rfl hlen).mono ?_
    rintro e w2 ⟨v2, rfl, hr2, hE2⟩
    obtain ⟨a2, c2, rfl, hs2⟩ := sites_of_row hr2
    clear hr2
    go_wp2_with fail
    refine (f28_c a l.length c l i y w2 ((hl.ext hE1).ext hE2) rfl hlen).mono ?_
    rintro e w3 ⟨v3, rfl, hr3, hE3⟩
    obtain ⟨a3, c3, rfl, hs3⟩ := sites_of_row hr3
    clear hr3
    go_wp2_with fail
    refine (f29_c a2 a3 _ _ c2 c3 (raised l i y) (raised l i y) w3 (hs2.ext hE3) hs3 rfl rfl (by omega) (by omega)).mono ?_
    rintro e w4 ⟨rfl, hE4⟩
    have d1 : decide (raised l i y = raised l i y) = true := by simp
    rw [d1]
    clear d1
    go_wp2_with fail
    refine (f29_c a1 a _ _ c1 c l l w4 (((hs1.ext hE2).ext hE3).ext hE4) ((((hl.ext hE1).ext hE2).ext hE3).ext hE4) rfl rfl (by omega) (by omega)).mono ?_
    rintro e w5 ⟨rfl, hE5⟩
    have d1 : decide (l = l) = true := by simp
    rw [d1]
    clear d1
    go_wp2_with fail
    refine (f17_c _).mono ?_
    rintro e w6 ⟨rfl, hE6⟩
    go_wp2_with fail
    go_ret
    exact ⟨rfl, hE1.trans' (hE2.trans' (hE3.trans' (hE4.trans' (hE5.trans' hE6))))⟩
end Go.Proofs.Ytodlbgncdggimaa
