/- MeanReaches: the law's walk. -/
import Derived.Test.YtgnjaapjaglleaaT13
import Derived.Test.YtgnjaapjaglleaaP10
namespace Go.Proofs.Ytgnjaapjaglleaa
open Go.RowKit
attribute [local go_sem] GW.cell

theorem reach_bd {ll : List (List Atom)} {ws : List Int} {A : Int} {M : List Atom} (h5 : ll.length ≤ 5) (hw : ∀ j, j < ll.length → 1 ≤ gi ws j ∧ gi ws j ≤ 9) {q : Nat} (hq : q ≤ ll.length) : 0 ≤ sumR (fun i => gi ws i * apartV (scaleL (gl ll i) A) M 2) q ∧ sumR (fun i => gi ws i * apartV (scaleL (gl ll i) A) M 2) q ≤ 25920000000000000 := by
  have h1 := sumR_bd (f := fun i => gi ws i * apartV (scaleL (gl ll i) A) M 2) (A := 0) (B := 5184000000000000) (n := ll.length) (fun i hi => by
    have h2 := hw i hi
    have h3 := apart_bd (l := scaleL (gl ll i) A) (m := M) 2
    have h4 := mulbd (a := gi ws i) (b := apartV (scaleL (gl ll i) A) M 2) (A := 9) (B := 576000000000000) (by omega) (by omega)
    exact ⟨Int.mul_nonneg (by omega) h3.1, by omega⟩) q hq
  omega
theorem leastNum_bd {ll : List (List Atom)} {ws : List Int} (h : weighedErr ll ws = 0) : -364500000000 ≤ leastNum ll ws ∧ leastNum ll ws ≤ 364500000000 := by
  obtain ⟨hok, hws, hwb⟩ := weighed_ok h
  have := least_bd hok hwb (Nat.le_refl _)
  unfold leastNum ratN; rw [if_pos h]
  exact tdiv_bd (by omega)
theorem leastDen_bd {ll : List (List Atom)} {ws : List Int} (h : weighedErr ll ws = 0) : 1 ≤ leastDen ll ws ∧ leastDen ll ws ≤ 45 := by
  obtain ⟨hok, hws, hwb⟩ := weighed_ok h
  have hs := sumR_bd (f := gi ws) (A := 1) (B := 9) hwb ll.length (Nat.le_refl _)
  rw [show sumR (gi ws) ll.length = sumTo ws ll.length from rfl] at hs
  have h5 := hok.five
  have hp := hok.pos
  unfold leastDen; rw [if_pos h]; exact ratD_bd (by omega)
set_option maxRecDepth 20000 in
set_option maxHeartbeats 8000000 in
theorem lawRea (w : World) (a : Option Addr) (n c : Nat) (l : List (List Atom)) (hl : Loads w a l) (hn : l.length = n) (hlx : n ≤ 9223372036854775807) (a2 : Option Addr) (n2 c2 : Nat) (ws : List Int) (hw : Ints w a2 ws) (hn2 : ws.length = n2) :
    Calls Try.prog 10 #[.agg #[.slice a n c, .slice a2 n2 c2]] w fun e w' => e = .returned (.bool true) ∧ Ext w w' := by
  subst hn hn2
  have hE0 := ext_alloc w (.cells #[.slice a l.length c, .slice a2 ws.length c2] 32)
  have HB := Lib.hid (BlkC.new w #[.slice a l.length c, .slice a2 ws.length c2] 32)
  have hz := HB.out.lt
  go_enter Try.func10, Try.ntmps10
  go_wp2_with fail
  generalize (w.alloc (.cells #[.slice a l.length c, .slice a2 ws.length c2] 32)) = w0 at *
  refine (f22_c a a2 l.length c ws.length c2 l _ (hl.ext hE0) rfl hlx).mono ?_
  rintro e w1 ⟨rfl, hX1⟩
  have hE1 := hE0.trans' hX1
  rcases Bool.eq_false_or_eq_true (longB l || decide (100 < (ws.length : Int))) with h1 | h1
  · rw [h1]
    go_wp2_with fail
    refine (f18_c _).mono ?_
    rintro e w9 ⟨rfl, hE9⟩
    go_wp2_with fail
    go_ret
    exact ⟨rfl, hE1.trans' hE9⟩
  have h1' := h1
  rw [Bool.or_eq_false_iff] at h1'
  obtain ⟨q1, q2⟩ := longB_no h1'.1
  have hlen3 : ws.length ≤ 140737488355328 := by have := of_decide_eq_false h1'.2; omega
  rw [h1]
  have hlen : l.length ≤ 140737488355328 := by omega
  have Hin : Hid (∀ j, (hj : j < l.length) → l[j].length ≤ 140737488355328) := Lib.hid (fun j hj => by have := q2 j hj; omega)
  clear q2 h1 h1'
  have HBc := HB.out.ext hX1
  have g0 := HBc.cellv 0 (v := .slice a l.length c) rfl
  have g1 := HBc.cellv 1 (v := .slice a2 ws.length c2) rfl
  clear HBc
  go_wp2_with fail
  refine (f24_c a a2 l.length c ws.length c2 l ws _ (hl.ext hE1) rfl hlen Hin.out (hw.ext hE1) rfl hlen3).mono ?_
  rintro e w2 ⟨vM, rfl, hrow, hX2⟩
  obtain ⟨aM, cM, rfl, hM⟩ := atoms_of_row hrow
  clear hrow
  have hE2 := hE1.trans' hX2
  have hX2 := hX1.trans' hX2
  have HBc := HB.out.ext hX2
  have g0 := HBc.cellv 0 (v := .slice a l.length c) rfl
  have g1 := HBc.cellv 1 (v := .slice a2 ws.length c2) rfl
  clear HBc
  go_wp2_with fail
  refine (f37_c a a2 l.length c ws.length c2 l ws _ (hl.ext hE2) rfl hlen Hin.out (hw.ext hE2) rfl hlen3).mono ?_
  rintro e w4 ⟨rfl, hX4⟩
  have hM4 := hM.ext hX4
  have hE4 := hE2.trans' hX4
  have hX4 := hX2.trans' hX4
  have HBc := HB.out.ext hX4
  have g0 := HBc.cellv 0 (v := .slice a l.length c) rfl
  have g1 := HBc.cellv 1 (v := .slice a2 ws.length c2) rfl
  clear HBc
  have HR1 := Lib.hid (BlkC.new w4 #[.int .i64 (leastNum l ws), .int .i64 (leastDen l ws)] 49)
  have hE5 := hE4.trans' (ext_alloc w4 (.cells #[.int .i64 (leastNum l ws), .int .i64 (leastDen l ws)] 49))
  have hX5 := hX4.trans' (ext_alloc w4 (.cells #[.int .i64 (leastNum l ws), .int .i64 (leastDen l ws)] 49))
  have hz4 := HR1.out.lt
  have hz5 : w.heap.size < w4.heap.size := Nat.lt_of_lt_of_le hz hX4.size
  have HM5 := Lib.hid (hM4.ext (ext_alloc w4 (.cells #[.int .i64 (leastNum l ws), .int .i64 (leastDen l ws)] 49)))
  clear hM hM4
  by_cases h0 : weighedErr l ws = 0
  · have H0 := Lib.hid h0
    obtain ⟨hok, hws, hwb⟩ := weighed_ok h0
    have h5 := hok.five
    have hp1 := hok.pos
    have Hval := Lib.hid (means_valid h0)
    obtain ⟨hML, -⟩ := listErr_ok Hval.out
    have Hsaid := Lib.hid (reach_said h0)
    have Hsc := Lib.hid (fun i (hi : i < l.length) => reach_scale h0 hi)
    have Hrb := Lib.hid (fun (A : Int) (M : List Atom) q (hq : q ≤ l.length) => reach_bd (A := A) (M := M) h5 hwb hq)
    have hnb := leastNum_bd h0
    have hdb := leastDen_bd h0
    have Hw6 : Hid (∀ j, j < ws.length → 0 ≤ gi ws j ∧ gi ws j ≤ 1000000) := Lib.hid (fun j hj => by have := hwb j (by omega); omega)
    have hs := sumR_bd (f := gi ws) (A := 1) (B := 9) hwb l.length (Nat.le_refl _)
    rw [show sumR (gi ws) l.length = sumTo ws l.length from rfl] at hs
    have hws1 : l.length ≤ ws.length ∧ ws.length ≤ l.length := by omega
    have Hlw : Hid (sumTo ws ws.length = sumTo ws l.length) := Lib.hid (by rw [hws])
    have Hwb := Lib.hid hwb
    rw [h0]
    clear h0 hok hws hwb
    generalize leastNum l ws = N at *
    generalize leastDen l ws = R at *
    go_wp2_with fail
    refine (f26_c a2 ws.length c2 ws _ (hw.ext hE5) rfl (by omega) Hw6.out).mono ?_
    rintro e w6 ⟨rfl, hX6⟩
    rw [Hlw.out]
    have hE6 := hE5.trans' hX6
    have HM6 := Lib.hid (HM5.out.ext hX6)
    have HR6 := Lib.hid (HR1.out.ext hX6)
    have hX6 := hX5.trans' hX6
    have HB6 := Lib.hid (HB.out.ext hX6)
    generalize sumTo ws l.length = A at *
    generalize meansL l ws = M at *
    go_wp2_with fail
    go_loopw [8, 9] (fun s i wr => ∃ q : Nat, q ≤ l.length ∧ i = .int .i64 q ∧ s = .int .i64 (sumR (fun i => gi ws i * apartV (scaleL (gl l i) A) M 2) q) ∧ Ext w6 wr) (fun _ i _ => l.length - (intOf i).toNat)
    case atStart => exact ⟨0, Nat.zero_le _, rfl, rfl, Below.refl _ _⟩
    case round =>
      obtain ⟨q, hq, rfl, rfl, hX7⟩ := hrel
      have hE7 := hE6.trans' hX7
      have HB7 := HB6.out.ext hX7
      have g0 := HB7.cellv 0 (v := .slice a l.length c) rfl
      have g1 := HB7.cellv 1 (v := .slice a2 ws.length c2) rfl
      by_cases hlt : q < l.length
      · obtain ⟨b1, o1, a1, c1, rfl, hb1, hc1, hi1⟩ := hl.ext hE7 q hlt
        obtain ⟨s1, s2⟩ := Hsc.out q hlt
        have C1 := f39_c a1 l[q].length c1 l[q] A wr hi1 rfl (Hin.out q hlt)
        rw [s1] at C1
        unfold scaleV at C1
        rw [if_pos s1] at C1
        have C1 := Lib.hid C1
        have Hs2 := Lib.hid s2
        have hll := scaleL_length l[q] A
        have hl40 : (scaleL l[q] A).length ≤ 140737488355328 := by rw [hll]; exact Hin.out q hlt
        clear s1 s2 hll HB7
        have Hs : Hid (sumR (fun i => gi ws i * apartV (scaleL (gl l i) A) M 2) (q + 1) = sumR (fun i => gi ws i * apartV (scaleL (gl l i) A) M 2) q + gi ws q * apartV (scaleL l[q] A) M 2) := Lib.hid (by simp only [sumR]; rw [gl_at hlt])
        have t3 := Hrb.out A M q hq
        have t1 := Hwb.out q hlt
        have t2 := apart_bd (l := scaleL l[q] A) (m := M) 2
        go_wp2_with fail
        refine C1.out.mono ?_
        rintro e w8 ⟨v8, rfl, hrow8, hX8⟩
        obtain ⟨a8, c8, rfl, hA8⟩ := atoms_of_row hrow8
        clear hrow8
        have hE8 := hE7.trans' hX8
        have hX8 := hX7.trans' hX8
        have C2 := f30_c a8 aM (scaleL l[q] A).length c8 M.length cM (scaleL l[q] A) M 2 w8 hA8 rfl hl40 (HM6.out.ext hX8) rfl (by omega)
        rw [Hs2.out] at C2
        have C2 := Lib.hid C2
        generalize sumR (fun i => gi ws i * apartV (scaleL (gl l i) A) M 2) q = S0 at *
        generalize apartV (scaleL l[q] A) M 2 = V at *
        go_wp2_with fail
        refine C2.out.mono ?_
        rintro e w9 ⟨rfl, hX9⟩
        have hE9 := hE8.trans' hX9
        have hX9 := hX8.trans' hX9
        have HB9 := HB6.out.ext hX9
        have g1 := HB9.cellv 1 (v := .slice a2 ws.length c2) rfl
        obtain ⟨b2, o2, rfl, hb2, hc2⟩ := hw.ext hE9 q (by omega)
        rw [← gi_at] at hc2
        have hqw : q < ws.length := by omega
        generalize gi ws q = x at *
        have t4 := mulbd (a := x) (b := V) (A := 9) (B := 576000000000000) (by omega) (by omega)
        clear C1 C2 HB9
        go_wp2_with fail
        go_roundw
        case rel => exact ⟨q + 1, by omega, by go_num, by rw [Hs.out], hX9⟩
        case measure => simp [intOf]; omega
      · obtain rfl : q = l.length := by omega
        have t3 := Hrb.out A M l.length (Nat.le_refl _)
        have HR7 := HR6.out.ext hX7
        have r0 := HR7.cellv 0 (v := .int .i64 N) rfl
        have r1 := HR7.cellv 1 (v := .int .i64 R) rfl
        generalize sumR (fun i => gi ws i * apartV (scaleL (gl l i) A) M 2) l.length = S0 at *
        have m1 := mulbd (a := S0) (b := R) (A := 25920000000000000) (B := 45) (by omega) (by omega)
        have m2 := mulbd (a := N) (b := A) (A := 364500000000) (B := 45) (by omega) (by omega)
        have m3 := mulbd (a := N * A) (b := A) (A := 16402500000000) (B := 45) (by omega) (by omega)
        have hbq : (S0 * R == N * A * A) = true := by simpa using Hsaid.out
        clear HR7
        obtain ⟨w7, rfl⟩ : ∃ w7 : World, w7 = wr := ⟨_, rfl⟩
        go_wp2_with fail
        refine (f18_c _).mono ?_
        rintro e w9 ⟨rfl, hE9⟩
        go_wp2_with fail
        go_ret
        exact ⟨rfl, hE7.trans' hE9⟩
  · have hb : (weighedErr l ws != 0) = true := by simp [h0]
    clear h0
    generalize weighedErr l ws = E at *
    have hEE : (E == E) = true := by simp
    go_wp2_with fail
    refine (f18_c _).mono ?_
    rintro e w9 ⟨rfl, hE9⟩
    go_wp2_with fail
    go_ret
    exact ⟨rfl, hE5.trans' hE9⟩
end Go.Proofs.Ytgnjaapjaglleaa
