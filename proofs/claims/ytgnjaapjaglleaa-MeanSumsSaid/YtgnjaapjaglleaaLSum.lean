/- MeanSums: the law's walk. -/
import Derived.Test.YtgnjaapjaglleaaT12
namespace Go.Proofs.Ytgnjaapjaglleaa
open Go.RowKit
attribute [local go_sem] GW.cell

set_option maxRecDepth 20000 in
set_option maxHeartbeats 8000000 in
theorem lawSum (w : World) (a : Option Addr) (n c : Nat) (l : List (List Atom)) (hl : Loads w a l) (hn : l.length = n) (hlx : n ≤ 9223372036854775807) (a2 : Option Addr) (n2 c2 : Nat) (ws : List Int) (hw : Ints w a2 ws) (hn2 : ws.length = n2) (b : Option Addr) (k d : Nat) (m : List Atom) (hm : Atoms w b m) (hk : m.length = k) (kind : Int) :
    Calls Try.prog 8 #[.agg #[.slice a n c, .slice a2 n2 c2], .slice b k d, .int .i64 kind] w fun e w' => e = .returned (.bool true) ∧ Ext w w' := by
  subst hn hk hn2
  have hE0 := ext_alloc w (.cells #[.slice a l.length c, .slice a2 ws.length c2] 32)
  have HB := Lib.hid (BlkC.new w #[.slice a l.length c, .slice a2 ws.length c2] 32)
  have hz := HB.out.lt
  go_enter Try.func8, Try.ntmps8
  go_wp2_with fail
  generalize (w.alloc (.cells #[.slice a l.length c, .slice a2 ws.length c2] 32)) = w0 at *
  refine (f22_c a a2 l.length c ws.length c2 l _ (hl.ext hE0) rfl hlx).mono ?_
  rintro e w1 ⟨rfl, hX1⟩
  have hE1 := hE0.trans' hX1
  rcases Bool.eq_false_or_eq_true (longB l || decide (100 < (ws.length : Int))) with h1 | h1
  · rw [h1]
    go_wp2_with fail
    refine (f18_c _).mono ?_
    rintro e w9 ⟨rfl, hE9⟩
    go_wp2_with fail
    go_ret
    exact ⟨rfl, hE1.trans' hE9⟩
  have h1' := h1
  rw [Bool.or_eq_false_iff] at h1'
  obtain ⟨q1, q2⟩ := longB_no h1'.1
  have hlen3 : ws.length ≤ 140737488355328 := by have := of_decide_eq_false h1'.2; omega
  rw [h1]
  have hlen : l.length ≤ 140737488355328 := by omega
  have Hin : Hid (∀ j, (hj : j < l.length) → l[j].length ≤ 140737488355328) := Lib.hid (fun j hj => by have := q2 j hj; omega)
  clear q2 h1 h1'
  have HBc := HB.out.ext hX1
  have g0 := HBc.cellv 0 (v := .slice a l.length c) rfl
  have g1 := HBc.cellv 1 (v := .slice a2 ws.length c2) rfl
  clear HBc
  go_wp2_with fail
  refine (f17_c _ _ _ _).mono ?_
  rintro e w1 ⟨rfl, rfl⟩
  by_cases h2 : 100 < m.length
  · rw [decide_eq_true (show 100 < (m.length : Int) by omega)]
    go_wp2_with fail
    refine (f18_c _).mono ?_
    rintro e w9 ⟨rfl, hE9⟩
    go_wp2_with fail
    go_ret
    exact ⟨rfl, hE1.trans' hE9⟩
  rw [decide_eq_false (show ¬ 100 < (m.length : Int) by omega)]
  have hlen2 : m.length ≤ 140737488355328 := by omega
  go_wp2_with fail
  refine (f35_c a a2 b l.length c ws.length c2 m.length d l ws m kind _ (hl.ext hE1) rfl hlen Hin.out (hw.ext hE1) rfl hlen3 (hm.ext hE1) rfl hlen2).mono ?_
  rintro e w2 ⟨rfl, hX2⟩
  have hE2 := hE1.trans' hX2
  have hX2 := hX1.trans' hX2
  have HBc := HB.out.ext hX2
  have g0 := HBc.cellv 0 (v := .slice a l.length c) rfl
  have g1 := HBc.cellv 1 (v := .slice a2 ws.length c2) rfl
  clear HBc
  go_wp2_with fail
  refine (f36_c a a2 b l.length c ws.length c2 m.length d l ws m kind _ (hl.ext hE2) rfl hlen Hin.out (hw.ext hE2) rfl hlen3 (hm.ext hE2) rfl hlen2).mono ?_
  rintro e w3 ⟨rfl, hX3⟩
  have hE3 := hE2.trans' hX3
  have hX3 := hX2.trans' hX3
  have HBc := HB.out.ext hX3
  have g0 := HBc.cellv 0 (v := .slice a l.length c) rfl
  have g1 := HBc.cellv 1 (v := .slice a2 ws.length c2) rfl
  clear HBc
  go_wp2_with fail
  refine (f37_c a a2 l.length c ws.length c2 l ws _ (hl.ext hE3) rfl hlen Hin.out (hw.ext hE3) rfl hlen3).mono ?_
  rintro e w4 ⟨rfl, hX4⟩
  have hE4 := hE3.trans' hX4
  have hX4 := hX3.trans' hX4
  have HBc := HB.out.ext hX4
  have g0 := HBc.cellv 0 (v := .slice a l.length c) rfl
  have g1 := HBc.cellv 1 (v := .slice a2 ws.length c2) rfl
  clear HBc
  have HR1 := Lib.hid (BlkC.new w4 #[.int .i64 (leastNum l ws), .int .i64 (leastDen l ws)] 49)
  have hE5 := hE4.trans' (ext_alloc w4 (.cells #[.int .i64 (leastNum l ws), .int .i64 (leastDen l ws)] 49))
  have hX5 := hX4.trans' (ext_alloc w4 (.cells #[.int .i64 (leastNum l ws), .int .i64 (leastDen l ws)] 49))
  have hz4 := HR1.out.lt
  have hz5 : w.heap.size < w4.heap.size := Nat.lt_of_lt_of_le hz hX4.size
  go_wp2_with fail
  refine (f38_c a a2 l.length c ws.length c2 l ws _ (hl.ext hE5) rfl hlen Hin.out (hw.ext hE5) rfl hlen3).mono ?_
  rintro e w5 ⟨rfl, hX6⟩
  have hE6 := hE5.trans' hX6
  have HR2 := Lib.hid (HR1.out.ext hX6)
  have HR3 := Lib.hid (HR2.out.alloc (.cells #[.int .i64 (leastNum l ws), .int .i64 (leastDen l ws)] 49))
  have HR4 := Lib.hid (BlkC.new w5 #[.int .i64 (leastNum l ws), .int .i64 (leastDen l ws)] 49)
  have hE7 := hE6.trans' (ext_alloc w5 (.cells #[.int .i64 (leastNum l ws), .int .i64 (leastDen l ws)] 49))
  have r0 := HR3.out.cellv 0 (v := .int .i64 (leastNum l ws)) rfl
  have r1 := HR3.out.cellv 1 (v := .int .i64 (leastDen l ws)) rfl
  have r2 := HR4.out.cellv 0 (v := .int .i64 (leastNum l ws)) rfl
  have r3 := HR4.out.cellv 1 (v := .int .i64 (leastDen l ws)) rfl
  have hg := guard49
  have hq := fun W => neq_rat W (leastNum l ws) (leastDen l ws) (leastNum l ws) (leastDen l ws)
  have hsb := sumV_bd (ll := l) (ws := ws) (m := m) (k := kind)
  by_cases h0 : sumErr l ws m kind = 0 ∧ kind = 2
  · obtain ⟨h0, rfl⟩ := h0
    obtain ⟨s1, ⟨s2, s3⟩, s4⟩ := sums_said h0
    have hp := mulbd (a := sumV l ws m 2) (b := leastDen l ws) (A := 25920000000000000) (B := 45) (by omega) (by omega)
    rw [h0, s1]
    clear s1 h0
    generalize sumV l ws m 2 = V at *
    generalize leastNum l ws = N at *
    generalize leastDen l ws = D at *
    have hV : (V != V) = false := by simp
    have d1 : decide (1 ≤ D) = true := by simpa using s2
    have d2 : decide (D ≤ 45) = true := by simpa using s3
    have d3 : decide (N ≤ V * D) = true := by simpa using s4
    go_wp2_with fail
    refine (f18_c _).mono ?_
    rintro e w9 ⟨rfl, hE9⟩
    go_wp2_with fail
    go_ret
    exact ⟨rfl, hE7.trans' hE9⟩
  · by_cases h3 : sumErr l ws m kind = 0
    · have hk2 : (kind != 2) = true := by simp; intro e; exact h0 ⟨h3, e⟩
      rw [h3]
      clear h0 h3
      generalize sumV l ws m kind = V at *
      generalize weighedErr l ws = E2 at *
      generalize leastNum l ws = N at *
      generalize leastDen l ws = D at *
      have hV : (V != V) = false := by simp
      have hEE2 : (E2 != E2) = false := by simp
      go_wp2_with fail
      refine (f18_c _).mono ?_
      rintro e w9 ⟨rfl, hE9⟩
      go_wp2_with fail
      go_ret
      exact ⟨rfl, hE7.trans' hE9⟩
    · have hb : (sumErr l ws m kind != 0) = true := by simp [h3]
      clear h0 h3
      generalize sumErr l ws m kind = E at *
      generalize sumV l ws m kind = V at *
      generalize weighedErr l ws = E2 at *
      generalize leastNum l ws = N at *
      generalize leastDen l ws = D at *
      have hV : (V != V) = false := by simp
      have hEE : (E != E) = false := by simp
      have hEE2 : (E2 != E2) = false := by simp
      go_wp2_with fail
      refine (f18_c _).mono ?_
      rintro e w9 ⟨rfl, hE9⟩
      go_wp2_with fail
      go_ret
      exact ⟨rfl, hE7.trans' hE9⟩
end Go.Proofs.Ytgnjaapjaglleaa
