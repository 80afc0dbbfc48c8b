/- CellAlike: the law's walk. -/
import Derived.Test.YtodlbgncdggimaaT14
import Derived.Test.YtodlbgncdggimaaP1
namespace Go.Proofs.Ytodlbgncdggimaa
open Go.RowKit
attribute [local go_sem] GW.cell

theorem sites_new1 (w : World) (s : Site) (T : TypeId) (B : Nat) (hB : w.heap.size = B) : Sites (w.alloc (.cells #[.int .i64 s.x, .int .i64 s.y, .int .i64 s.w] T)) (some ⟨B, 0, none⟩) [s] := by
  subst hB
  intro j hj
  obtain rfl : j = 0 := by simpa using hj
  exact ⟨_, _, rfl, by simp, by simp, by simp, by simp⟩

theorem alike_succ {l : List Site} (b : Int) {k : Nat} (hk : k < l.length) : (alike l b).take (k + 1) = (alike l b).take k ++ [⟨l[k].x, l[k].y, l[k].w + b⟩] := by
  rw [List.take_add_one, List.getElem?_eq_getElem (by rw [alike_length]; exact hk)]
  simp [alike]

theorem cells_len (l : List Site) (x y : Int) : (cellsL l x y).length ≤ 144 := by
  unfold cellsL
  split
  · rename_i h
    rw [owns_length]
    obtain ⟨_, h1, h2, h3, h4⟩ := okField_bd h
    exact Nat.le_trans (Nat.mul_le_mul (show x.toNat ≤ 12 by omega) (show y.toNat ≤ 12 by omega)) (by omega)
  · simp

set_option maxHeartbeats 4000000 in
theorem lawAlike (w : World) (a : Option Addr) (n c : Nat) (l : List Site) (hl : Sites w a l) (hn : l.length = n) (x y b : Int) :
    Calls Try.prog 3 #[.slice a n c, .agg #[.int .i64 x, .int .i64 y], .int .i64 b] w fun e w' => e = .returned (.bool true) ∧ Ext w w' := by
  subst hn
  by_cases h40 : 40 < l.length
  · have hd : decide (40 < (l.length : Int)) = true := by simp; omega
    go_enter Try.func3, Try.ntmps3
    go_wp2_with fail
    refine (f17_c _).mono ?_
    rintro e w1 ⟨rfl, hE⟩
    go_wp2_with fail
    go_ret
    exact ⟨rfl, (ext_alloc _ _).trans' hE⟩
  have hd : decide (40 < (l.length : Int)) = false := by simp; omega
  by_cases hb1 : b < -20000
  · have hd1 : decide (b < -20000) = true := by simpa using hb1
    clear hb1
    go_enter Try.func3, Try.ntmps3
    go_wp2_with fail
    refine (f17_c _).mono ?_
    rintro e w1 ⟨rfl, hE⟩
    go_wp2_with fail
    go_ret
    exact ⟨rfl, (ext_alloc _ _).trans' hE⟩
  have hd1 : decide (b < -20000) = false := by simpa using hb1
  by_cases hb2 : 20000 < b
  · have hd2 : decide (20000 < b) = true := by simpa using hb2
    clear hb1 hb2
    go_enter Try.func3, Try.ntmps3
    go_wp2_with fail
    refine (f17_c _).mono ?_
    rintro e w1 ⟨rfl, hE⟩
    go_wp2_with fail
    go_ret
    exact ⟨rfl, (ext_alloc _ _).trans' hE⟩
  have hd2 : decide (20000 < b) = false := by simpa using hb2
  have hlen : l.length ≤ 140737488355328 := by omega
  have hc := fun W (h : Sites W a l) => f18_c a l.length c l x y W h rfl hlen
  by_cases hok : okField l x y = true
  · have he : errOf (okField l x y) = 0 := by rw [hok]; rfl
    simp only [he] at hc
    have Hc := Lib.hid hc
    have Hok := Lib.hid hok
    obtain ⟨i0, hi0⟩ := info_parts info31
    have Hi := Lib.hid hi0
    have hs5 := okSites_len (okField_bd hok).1
    have Hsb := Lib.hid (fun k (hk : k < l.length) => okSite_bd (okSites_at (okField_bd hok).1 hk))
    clear hc he hok hi0
    go_enter Try.func3, Try.ntmps3
    go_wp2_with fail
    refine (Hc.out _ (hl.ext (ext_alloc _ _))).mono ?_
    rintro e w1 ⟨a1, c1, rfl, hI1, hE1⟩
    clear Hc
    have hbx0 : w1.cell? ⟨w.heap.size, 0, none⟩ = some (.int .i64 x) := (hE1.cell' (by simp)).trans (by simp)
    have hbx1 : w1.cell? ⟨w.heap.size, 1, none⟩ = some (.int .i64 y) := (hE1.cell' (by simp)).trans (by simp)
    have hsz1 := hE1.size
    simp only [World.size_alloc] at hsz1
    have hE1' := (ext_alloc w (.cells #[.int .i64 x, .int .i64 y] 24)).trans' hE1
    clear hE1
    go_wp2_with fail
    go_loopw [9, 10] (fun o i wr => ∃ k : Nat, k ≤ l.length ∧ i = .int .i64 k ∧ Ext w1 wr ∧ Hid (wr.ownsRow w1.heap.size 31 3 o k (sitesV ((alike l b).take k)))) (fun _ i _ => l.length - (intOf i).toNat)
    case atStart => exact ⟨0, by omega, rfl, Below.refl _ _, Lib.hid (World.ownsRow_nil _ _ _ _)⟩
    case round =>
      obtain ⟨k, hk, rfl, hE, H⟩ := hrel
      by_cases hlt : k < l.length
      · have hb := Hsb.out k hlt
        obtain ⟨b1, o1, rfl, hb1, hcx, hcy, hcw⟩ := (hl.ext (hE1'.trans' hE)) k hlt
        go_wp2_with fail
        refine wp_region_ext_tail1 19 (by kernel_rfl) (by kernel_rfl) (by rfl) (by rfl) (fun _ _ _ h => h) ?_
        simp only [List.take_succ_cons, List.take_zero, List.drop_succ_cons, List.drop_zero]
        go_simp
        repeat (go_big_quiet_step (fail))
        refine wpQuiet_nil ?_
        intro w2 hE2
        have H2 := Lib.hid (row_ext H.out hE2)
        have Hn := Lib.hid (reads_sites (sites_new1 w2 ⟨l[k].x, l[k].y, l[k].w + b⟩ 31 w2.heap.size rfl))
        have hbs : w1.heap.size ≤ w2.heap.size := Nat.le_trans hE.size hE2.size
        go_wp2_with (at_builtin; refine wpList_append_any _ rfl (.tmp 43) (.tmp 62) 22 rfl w1.heap.size 31 i0 _ 3 24 Try.underlying22 Hi.out.1 Hi.out.2.1 Hi.out.2.2.1 Hi.out.2.2.2 rfl (by omega) _ k _ rfl (Lib.hid (World.ownsRow.alloc H2.out _)).out _ (some ⟨w2.heap.size, 0, none⟩) 1 1 (sitesV [⟨l[k].x, l[k].y, l[k].w + b⟩]) rfl Hn.out (sitesV_one_cell _) (by unfold maxLen; omega) (by omega) (by simp; omega) ?_; intro v' w4 hown hgrow hat; have hE4 := ext_append (hE.trans' hE2) H2.out (Nat.le_refl _) hgrow; rw [← sitesV_append, ← alike_succ b hlt] at hown; have H4 := Lib.hid hown; clear hat hgrow hown)
        go_roundw
        case rel => exact ⟨k + 1, by omega, by go_num, hE4, H4⟩
        case measure => simp [intOf]; omega
      · obtain rfl : k = l.length := by omega
        have hrow := H.out
        rw [List.take_of_length_le (by rw [alike_length]; omega)] at hrow
        obtain ⟨am, cm, rfl, hm⟩ := sites_of_row hrow
        clear hrow H
        have gx := (hE.cell' (by omega)).trans hbx0
        have gy := (hE.cell' (by omega)).trans hbx1
        have hc2 := f18_c am _ cm (alike l b) x y wr hm rfl (by rw [alike_length]; exact hlen)
        by_cases hok2 : okField (alike l b) x y = true
        · have he : errOf (okField (alike l b) x y) = 0 := by rw [hok2]; rfl
          rw [he, cells_alike Hok.out hok2] at hc2
          have Hc := Lib.hid hc2
          clear hc2 he hok2
          go_wp2_with fail
          refine Hc.out.mono ?_
          rintro e w2 ⟨a2, c2, rfl, hI2, hE2⟩
          clear Hc
          go_wp2_with fail
          refine (f19_c a1 a2 _ _ c1 c2 (cellsL l x y) (cellsL l x y) w2 (hI1.ext (hE.trans' hE2)) hI2 rfl rfl (by have := cells_len l x y; omega) (by have := cells_len l x y; omega)).mono ?_
          rintro e w3 ⟨rfl, hE3⟩
          have d1 : decide (cellsL l x y = cellsL l x y) = true := by simp
          rw [d1]
          clear d1
          go_wp2_with fail
          refine (f17_c _).mono ?_
          rintro e w4 ⟨rfl, hE4⟩
          go_wp2_with fail
          go_ret
          exact ⟨rfl, hE1'.trans' (hE.trans' (hE2.trans' (hE3.trans' hE4)))⟩
        · have hok' : okField (alike l b) x y = false := by simpa using hok2
          have he : errOf (okField (alike l b) x y) = 1 := by rw [hok']; rfl
          rw [he] at hc2
          have Hc := Lib.hid hc2
          clear hc2 he hok2 hok'
          go_wp2_with fail
          refine Hc.out.mono ?_
          rintro e w2 ⟨a2, c2, rfl, hI2, hE2⟩
          clear Hc
          go_wp2_with fail
          refine (f17_c _).mono ?_
          rintro e w4 ⟨rfl, hE4⟩
          go_wp2_with fail
          go_ret
          exact ⟨rfl, hE1'.trans' (hE.trans' (hE2.trans' hE4))⟩
  · have hok' : okField l x y = false := by simpa using hok
    have he : errOf (okField l x y) = 1 := by rw [hok']; rfl
    simp only [he] at hc
    have Hc := Lib.hid hc
    clear hc he hok hok'
    go_enter Try.func3, Try.ntmps3
    go_wp2_with fail
    refine (Hc.out _ (hl.ext (ext_alloc _ _))).mono ?_
    rintro e w1 ⟨a1, c1, rfl, hI1, hE1⟩
    clear Hc
    go_wp2_with fail
    refine (f17_c _).mono ?_
    rintro e w2 ⟨rfl, hE2⟩
    go_wp2_with fail
    go_ret
    exact ⟨rfl, (ext_alloc _ _).trans' (hE1.trans' hE2)⟩
end Go.Proofs.Ytodlbgncdggimaa
