/- MeanScales: the law's walk. -/
import Derived.Test.YtgnjaapjaglleaaT14
namespace Go.Proofs.Ytgnjaapjaglleaa
open Go.RowKit
attribute [local go_sem] GW.cell

theorem scaleV_len (l : List Atom) (b : Int) : (scaleV l b).length ≤ l.length := by
  unfold scaleV
  split
  · rw [scaleL_length]; exact Nat.le_refl _
  · simp
set_option maxHeartbeats 8000000 in
theorem lawSca (w : World) (a : Option Addr) (n c : Nat) (l : List Atom) (hl : Atoms w a l) (hn : l.length = n) (b : Option Addr) (k d : Nat) (m : List Atom) (hm : Atoms w b m) (hk : m.length = k) (f : Int) :
    Calls Try.prog 9 #[.slice a n c, .slice b k d, .int .i64 f] w fun e w' => e = .returned (.bool true) ∧ Ext w w' := by
  subst hn hk
  go_enter Try.func9, Try.ntmps9
  go_wp2_with fail
  refine (f17_c _ _ _ _).mono ?_
  rintro e w1 ⟨rfl, rfl⟩
  by_cases h1 : 100 < l.length
  · rw [decide_eq_true (show 100 < (l.length : Int) by omega)]
    go_wp2_with fail
    refine (f18_c _).mono ?_
    rintro e w1 ⟨rfl, hE⟩
    go_wp2_with fail
    go_ret
    exact ⟨rfl, hE⟩
  rw [decide_eq_false (show ¬ 100 < (l.length : Int) by omega)]
  go_wp2_with fail
  refine (f17_c _ _ _ _).mono ?_
  rintro e w1 ⟨rfl, rfl⟩
  by_cases h2 : 100 < m.length
  · rw [decide_eq_true (show 100 < (m.length : Int) by omega)]
    go_wp2_with fail
    refine (f18_c _).mono ?_
    rintro e w1 ⟨rfl, hE⟩
    go_wp2_with fail
    go_ret
    exact ⟨rfl, hE⟩
  rw [decide_eq_false (show ¬ 100 < (m.length : Int) by omega)]
  have hlen : l.length ≤ 140737488355328 := by omega
  have hlen2 : m.length ≤ 140737488355328 := by omega
  have s1 := scaleV_len l f
  have s2 := scaleV_len m f
  have hbd := apart_bd (l := l) (m := m) 2
  go_wp2_with fail
  refine (f39_c a l.length c l f _ hl rfl hlen).mono ?_
  rintro e w1 ⟨v1, rfl, hrow, hE1⟩
  obtain ⟨a1, c1, rfl, hA1⟩ := atoms_of_row hrow
  clear hrow
  go_wp2_with fail
  refine (f29_c a l.length c l f _ (hl.ext hE1) rfl hlen).mono ?_
  rintro e w2 ⟨v2, rfl, hrow, hX2⟩
  obtain ⟨a2, c2, rfl, hA2⟩ := atoms_of_row hrow
  clear hrow
  have hE2 := hE1.trans' hX2
  have hA1 := hA1.ext hX2
  go_wp2_with fail
  refine (f21_c a1 a2 _ _ c1 c2 (scaleV l f) (scaleV l f) _ hA1 hA2 rfl rfl (by omega) (by omega)).mono ?_
  rintro e w3 ⟨rfl, hX3⟩
  rw [decide_eq_true (show scaleV l f = scaleV l f from rfl)]
  have hE3 := hE2.trans' hX3
  have hA1 := hA1.ext hX3
  have hEq : (scaleErr l f != scaleErr l f) = false := by simp
  go_wp2_with fail
  refine (f39_c b m.length d m f _ (hm.ext hE3) rfl hlen2).mono ?_
  rintro e w4 ⟨v4, rfl, hrow, hX4⟩
  obtain ⟨a4, c4, rfl, hA4⟩ := atoms_of_row hrow
  clear hrow
  have hE4 := hE3.trans' hX4
  have hA1 := hA1.ext hX4
  clear hEq
  go_wp2_with fail
  refine (f30_c a b l.length c m.length d l m 2 _ (hl.ext hE4) rfl hlen (hm.ext hE4) rfl hlen2).mono ?_
  rintro e w5 ⟨rfl, hX5⟩
  have hE5 := hE4.trans' hX5
  have hA1 := Lib.hid (hA1.ext hX5)
  have hA4 := Lib.hid (hA4.ext hX5)
  by_cases h1 : scaleErr l f = 0
  · by_cases h2 : scaleErr m f = 0
    · by_cases h3 : apartErr l m 2 = 0
      · obtain ⟨g1, g2⟩ := scales_said h1 h2 h3
        obtain ⟨q1, q2, q3⟩ := scaleErr_ok h1
        have hV1 : scaleV l f = scaleL l f := by unfold scaleV; rw [if_pos h1]
        have hV2 : scaleV m f = scaleL m f := by unfold scaleV; rw [if_pos h2]
        rw [hV1] at hA1 s1
        rw [hV2] at hA4 s2
        rw [h1, h2, h3, hV1, hV2]
        have C := f30_c a1 a4 (scaleL l f).length c1 (scaleL m f).length c4 (scaleL l f) (scaleL m f) 2 w5 hA1.out rfl (by omega) hA4.out rfl (by omega)
        rw [g1, g2] at C
        have C := Lib.hid C
        clear h1 h2 h3 hV1 hV2 g1 g2 q1 q3
        have m1 := mulbd (a := f) (b := f) (A := 60) (B := 60) (by omega) (by omega)
        generalize apartV l m 2 = V at *
        have m2 := mulbd (a := f * f) (b := V) (A := 3600) (B := 576000000000000) (by omega) (by omega)
        have hVV : (f * f * V == f * f * V) = true := by simp
        go_wp2_with fail
        refine C.out.mono ?_
        rintro e w6 ⟨rfl, hX6⟩
        have hE6 := hE5.trans' hX6
        go_wp2_with fail
        refine (f18_c _).mono ?_
        rintro e w9 ⟨rfl, hE9⟩
        go_wp2_with fail
        go_ret
        exact ⟨rfl, hE6.trans' hE9⟩
      · have hb : (apartErr l m 2 != 0) = true := by simp [h3]
        rw [h1, h2]
        clear h1 h2 h3
        go_wp2_with fail
        refine (f18_c _).mono ?_
        rintro e w9 ⟨rfl, hE9⟩
        go_wp2_with fail
        go_ret
        exact ⟨rfl, hE5.trans' hE9⟩
    · have hb : (scaleErr m f != 0) = true := by simp [h2]
      rw [h1]
      clear h1 h2
      go_wp2_with fail
      refine (f18_c _).mono ?_
      rintro e w9 ⟨rfl, hE9⟩
      go_wp2_with fail
      go_ret
      exact ⟨rfl, hE5.trans' hE9⟩
  · have hb : (scaleErr l f != 0) = true := by simp [h1]
    clear h1
    have hEq : (scaleErr l f != scaleErr l f) = false := by simp
    go_wp2_with fail
    refine (f18_c _).mono ?_
    rintro e w9 ⟨rfl, hE9⟩
    go_wp2_with fail
    go_ret
    exact ⟨rfl, hE5.trans' hE9⟩
end Go.Proofs.Ytgnjaapjaglleaa
