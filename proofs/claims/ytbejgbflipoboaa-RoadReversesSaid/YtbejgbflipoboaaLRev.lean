/- RoadReverses: the law's walk. -/
import Derived.Test.YtbejgbflipoboaaT18
namespace Go.Proofs.Ytbejgbflipoboaa
open Go.RowKit
attribute [local go_sem] GW.cell
theorem negL_take (y : List Int) {k : Nat} (hk : k < y.length) : (negL y).take (k + 1) = (negL y).take k ++ [-gi y k] := by
  rw [List.take_succ_eq_append_getElem (by simpa [negL] using hk)]
  simp [negL, gi, hk]
set_option maxRecDepth 20000 in
set_option maxHeartbeats 8000000 in
theorem lawRev (w : World) (N : Int) (a : Option Addr) (n c : Nat) (R : List Road) (hl : Roads w a R) (hn : R.length = n) (a1 : Option Addr) (n1 c1 : Nat) (y : List Int) (hy : Ints w a1 y) (hn1 : y.length = n1) :
    Calls Try.prog 7 #[.agg #[.int .i64 N, .slice a n c, .slice a1 n1 c1]] w fun e w' => e = .returned (.bool true) ∧ Ext w w' := by
  subst hn hn1
  have hE0 := ext_alloc w (.cells #[.int .i64 N, .slice a R.length c, .slice a1 y.length c1] 27)
  have HB := Lib.hid (BlkC.new w #[.int .i64 N, .slice a R.length c, .slice a1 y.length c1] 27)
  have hz1 := HB.out.lt
  have g0 := HB.out.cellv 0 (v := .int .i64 N) rfl
  have g1 := HB.out.cellv 1 (v := .slice a R.length c) rfl
  have g2 := HB.out.cellv 2 (v := .slice a1 y.length c1) rfl
  go_enter Try.func7, Try.ntmps7
  go_wp2_with fail
  generalize (w.alloc (.cells #[.int .i64 N, .slice a R.length c, .slice a1 y.length c1] 27)) = w0 at *
  refine (f17_c N a R.length c a1 y.length c1 _).mono ?_
  rintro e w1 ⟨rfl, hX1⟩
  have hE1 := hE0.trans' hX1
  rcases Bool.eq_false_or_eq_true (decide (60 < (R.length : Int)) || decide (60 < (y.length : Int))) with h1 | h1
  · rw [h1]
    go_wp2_with fail
    refine (f19_c _).mono ?_
    rintro e w9 ⟨rfl, hX9⟩
    go_wp2_with fail
    go_ret
    exact ⟨rfl, hE1.trans' hX9⟩
  rw [h1]
  rw [Bool.or_eq_false_iff] at h1
  have h2 := of_decide_eq_false h1.1
  have h3 := of_decide_eq_false h1.2
  clear h1
  clear g0 g1 g2 hz1
  have g0 := (HB.out.ext hX1).cellv 0 (v := .int .i64 N) rfl
  have g1 := (HB.out.ext hX1).cellv 1 (v := .slice a R.length c) rfl
  have g2 := (HB.out.ext hX1).cellv 2 (v := .slice a1 y.length c1) rfl
  have hz1 := (HB.out.ext hX1).lt
  obtain ⟨i0, hi0⟩ := info_parts info3
  have Hi := Lib.hid hi0
  clear hi0
  have hR60 : R.length ≤ 1000000 := by omega
  go_wp2_with fail
  refine (f35_c N a R.length c R _ (hl.ext hE1) rfl (by omega)).mono ?_
  rintro e w2 ⟨a3, c3, rfl, hR3, hX2⟩
  have hA2 := ext_alloc w2 (.cells #[.int .i64 (revN N R), .slice a3 (revL N R).length c3] 24)
  have HP2 := Lib.hid (BlkC.new w2 #[.int .i64 (revN N R), .slice a3 (revL N R).length c3] 24)
  have hE2 := (hE1.trans' hX2).trans' hA2
  have hY2 := (hX1.trans' hX2).trans' hA2
  have HR3 := Lib.hid (hR3.ext hA2)
  clear hR3
  clear g0 g1 g2 hz1
  have g0 := (HB.out.ext hY2).cellv 0 (v := .int .i64 N) rfl
  have g1 := (HB.out.ext hY2).cellv 1 (v := .slice a R.length c) rfl
  have g2 := (HB.out.ext hY2).cellv 2 (v := .slice a1 y.length c1) rfl
  have hz1 := (HB.out.ext hY2).lt
  have hp2 : w2.heap.size < (w2.alloc (.cells #[.int .i64 (revN N R), .slice a3 (revL N R).length c3] 24)).heap.size := HP2.out.lt
  go_wp2_with fail
  generalize hp3 : w2.heap.size = p3 at *
  clear hp3
  generalize w2.alloc (.cells #[.int .i64 (revN N R), .slice a3 (revL N R).length c3] 24) = w22 at *
  refine (f36_c N a R.length c R _ (hl.ext hE2) rfl (by omega)).mono ?_
  rintro e w3 ⟨a4, c4, rfl, hR4, hX3⟩
  have hA3 := ext_alloc w3 (.cells #[.int .i64 (revN N R), .slice a4 (revL N R).length c4] 24)
  have HP3 := Lib.hid (BlkC.new w3 #[.int .i64 (revN N R), .slice a4 (revL N R).length c4] 24)
  have hE3 := (hE2.trans' hX3).trans' hA3
  have hY3 := (hY2.trans' hX3).trans' hA3
  have HR4 := Lib.hid (hR4.ext hA3)
  have HR5 := Lib.hid (HR3.out.ext (hX3.trans' hA3))
  have HP22 := Lib.hid (HP2.out.ext (hX3.trans' hA3))
  clear hR4
  clear g0 g1 g2 hz1
  have g0 := (HB.out.ext hY3).cellv 0 (v := .int .i64 N) rfl
  have g1 := (HB.out.ext hY3).cellv 1 (v := .slice a R.length c) rfl
  have g2 := (HB.out.ext hY3).cellv 2 (v := .slice a1 y.length c1) rfl
  have hz1 := (HB.out.ext hY3).lt
  have u0 := HP22.out.cellv 0 (v := .int .i64 (revN N R)) rfl
  have u1 := HP22.out.cellv 1 (v := .slice a3 (revL N R).length c3) rfl
  have hu := HP22.out.lt
  have v0 := HP3.out.cellv 0 (v := .int .i64 (revN N R)) rfl
  have v1 := HP3.out.cellv 1 (v := .slice a4 (revL N R).length c4) rfl
  have hv := HP3.out.lt
  have hll : (revL N R).length ≤ 60 := by
    unfold revL
    split
    · simp; omega
    · simp
  go_wp2_with fail
  generalize hp4 : w3.heap.size = p4 at *
  clear hp4
  generalize w3.alloc (.cells #[.int .i64 (revN N R), .slice a4 (revL N R).length c4] 24) = w33 at *
  refine (f37_c (revN N R) (revN N R) a3 a4 (revL N R).length (revL N R).length c3 c4 (revL N R) (revL N R) _ HR5.out HR4.out rfl rfl (by omega) (by omega)).mono ?_
  rintro e w4 ⟨rfl, hX4⟩
  rw [show sameNet (revN N R) (revL N R) (revN N R) (revL N R) = true by simp [sameNet]]
  have hE4 := hE3.trans' hX4
  have hY4 := hY3.trans' hX4
  have HR6 := Lib.hid (HR5.out.ext hX4)
  have HP4 := Lib.hid (HP22.out.ext hX4)
  clear u0 u1 hu v0 v1 hv
  clear g0 g1 g2 hz1
  have g0 := (HB.out.ext hY4).cellv 0 (v := .int .i64 N) rfl
  have g1 := (HB.out.ext hY4).cellv 1 (v := .slice a R.length c) rfl
  have g2 := (HB.out.ext hY4).cellv 2 (v := .slice a1 y.length c1) rfl
  have hz1 := (HB.out.ext hY4).lt
  have hEE : (netErr N R != netErr N R) = false := by simp
  have HNE : Hid (excErr N R y = 0 → revN N R = N ∧ revL N R = R.map revD) := Lib.hid (fun h => by
    have := (excErr_ok h).1
    unfold revN revL
    rw [if_pos this, if_pos this]; exact ⟨rfl, rfl⟩)
  generalize netErr N R = E0 at *
  go_wp2_with fail
  refine (f26_c N a R.length c R a1 y.length c1 y _ (hl.ext hE4) rfl (by omega) (hy.ext hE4) rfl (by omega)).mono ?_
  rintro e w5 ⟨rfl, hX5⟩
  have hE5 := hE4.trans' hX5
  have hY5 := hY4.trans' hX5
  by_cases h0 : excErr N R y = 0
  case neg =>
    have hb : (excErr N R y != 0) = true := by simp [h0]
    clear h0 HNE
    generalize excErr N R y = E at *
    generalize lstF N R y = V at *
    generalize okF N R y = B at *
    go_wp2_with fail
    refine (f19_c _).mono ?_
    rintro e w9 ⟨rfl, hX9⟩
    go_wp2_with fail
    go_ret
    exact ⟨rfl, hE5.trans' hX9⟩
  obtain ⟨n1', n2'⟩ := HNE.out h0
  obtain ⟨M, e1, e2, hok, hM1, hM6⟩ := exc_nat h0
  have HL := Lib.hid (by subst e1; exact rev_least h0 : okF N R y = okF N (R.map revD) (negL y) ∧ lstF N R y = lstF N (R.map revD) (negL y))
  have HX := Lib.hid (by subst e1; exact rev_exc h0 : excErr N (R.map revD) (negL y) = 0)
  have h3' := (excErr_ok h0).2.2.1
  have Hyb := Lib.hid h3'
  rw [n1', n2', List.length_map] at HP4
  rw [n2'] at HR6
  rw [h0]
  clear h0 HNE n1' n2' h3' e1 hok HP3 HR4 HP22 HP2 HR3 HR5
  have HP5 := Lib.hid (HP4.out.ext hX5)
  have hlen5 : y.length ≤ 6 := by omega
  clear e2 hM1 hM6
  have hrow0 : Hid (w5.ownsRow w5.heap.size 3 1 (.slice none 0 0) 0 (((negL y).take 0).map (.int .i64))) := Lib.hid (World.ownsRow_nil _ _ _ _)
  clear g0 g1 g2 hz1
  have g0 := (HB.out.ext hY5).cellv 0 (v := .int .i64 N) rfl
  have g1 := (HB.out.ext hY5).cellv 1 (v := .slice a R.length c) rfl
  have g2 := (HB.out.ext hY5).cellv 2 (v := .slice a1 y.length c1) rfl
  have hz1 := (HB.out.ext hY5).lt
  generalize lstF N R y = V at *
  generalize okF N R y = B at *
  go_wp2_with fail
  go_loopw [10, 11] (fun v i wr => ∃ k : Nat, k ≤ y.length ∧ i = .int .i64 k ∧ Ext w5 wr ∧ Hid (wr.ownsRow w5.heap.size 3 1 v k (((negL y).take k).map (.int .i64)))) (fun _ i _ => y.length - (intOf i).toNat)
  case atStart => exact ⟨0, Nat.zero_le _, rfl, Ext.rfl' _, hrow0⟩
  case round =>
    obtain ⟨k, hk, rfl, hX6, H6⟩ := hrel
    have hE6 := hE5.trans' hX6
    have hY6 := hY5.trans' hX6
    clear g0 g1 g2 hz1
    have g0 := (HB.out.ext hY6).cellv 0 (v := .int .i64 N) rfl
    have g1 := (HB.out.ext hY6).cellv 1 (v := .slice a R.length c) rfl
    have g2 := (HB.out.ext hY6).cellv 2 (v := .slice a1 y.length c1) rfl
    have hz1 := (HB.out.ext hY6).lt
    by_cases hlt : k < y.length
    case pos =>
      obtain ⟨b1, o1, rfl, hb1, hc1⟩ := hy.ext hE6 k hlt
      rw [gi_def] at hc1
      have Ht := Lib.hid (negL_take y hlt)
      have hyb := Hyb.out k hlt
      have hxl := hX6.size
      have HAp : Hid (wr.ownsRow w5.heap.size 3 1 u10 k (((negL y).take k).map (.int .i64))) := H6
      generalize gi y k = z at *
      go_wp2_with (at_builtin; refine wpList_push1 rfl (.tmp 58) (.tmp 65) 25 rfl Hi.out Try.underlying25 rfl rfl HAp.out (by omega) hxl ?_; intro v10 w10 hown hgrow hat; have hX10 := ext_append hX6 HAp.out (Nat.le_refl _) hgrow; rw [← Ht.out] at hown; have H10 := Lib.hid hown; clear hown hgrow hat)
      go_roundw
      case rel => exact ⟨k + 1, by omega, by go_num, hX10, H10⟩
      case measure => simp [intOf]; omega
    obtain rfl : k = y.length := by omega
    have hl1 : (negL y).length = y.length := by simp [negL]
    rw [List.take_of_length_le (by omega)] at H6
    obtain ⟨ad, cp, he, hI⟩ := ints_of_row H6.out
    rw [hl1] at he
    subst he
    have Hl1 := Lib.hid hl1
    clear hl1
    have HI := Lib.hid hI
    clear hI H6
    have HP6 := Lib.hid (HP5.out.ext hX6)
    have HR7 := Lib.hid (HR6.out.ext (hX5.trans' hX6))
    have u0 := HP6.out.cellv 0 (v := .int .i64 N) rfl
    have u1 := HP6.out.cellv 1 (v := .slice a3 R.length c3) rfl
    have hu := HP6.out.lt
    go_wp2_with fail
    refine (f26_c N a3 R.length c3 (R.map revD) ad y.length cp (negL y) _ HR7.out (List.length_map _) (by omega) HI.out Hl1.out (by omega)).mono ?_
    rintro e w7 ⟨rfl, hX7⟩
    rw [HX.out, ← HL.out.1, ← HL.out.2]
    clear HX HL
    have q1 : (V == V) = true := by simp
    have q2 : (B == B) = true := by simp
    have hE7 := hE6.trans' hX7
    go_wp2_with fail
    refine (f19_c _).mono ?_
    rintro e w9 ⟨rfl, hX9⟩
    go_wp2_with fail
    go_ret
    exact ⟨rfl, hE7.trans' hX9⟩
end Go.Proofs.Ytbejgbflipoboaa
