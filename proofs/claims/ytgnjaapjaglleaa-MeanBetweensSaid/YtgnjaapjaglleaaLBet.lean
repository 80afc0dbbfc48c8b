/- MeanBetweens: the law's walk. -/
import Derived.Test.YtgnjaapjaglleaaT17
namespace Go.Proofs.Ytgnjaapjaglleaa
open Go.RowKit
attribute [local go_sem] GW.cell

theorem f21_same (a b : Option Addr) (n m c d : Nat) (l : List Atom) (w : World) (hl : Atoms w a l) (hk : Atoms w b l) (hn : l.length = n) (hm : l.length = m) (hn1 : n ≤ 140737488355328) :
    Calls Try.prog 21 #[.slice a n c, .slice b m d] w fun e w' => e = .returned (.bool true) ∧ Ext w w' :=
  (f21_c a b n m c d l l w hl hk hn hm hn1 (by omega)).mono fun e w' h => by simpa using h
theorem bet_len (l m : List Atom) (x y : Int) : (betL l m x y).length ≤ 40 := by
  by_cases h : betErr l m x y = 0
  · unfold betL; rw [if_pos h]; exact (betErr_ok h).2.2.2
  · unfold betL; rw [if_neg h]; simp
theorem bet_said1 {l m : List Atom} {num den : Int} (h : betErr l m num den = 0) (h1 : scaleErr l den = 0) (h2 : scaleErr m den = 0) :
    apartErr l m 1 = 0 ∧ apartErr (scaleL l den) (betL l m num den) 1 = 0 ∧ apartErr (betL l m num den) (scaleL m den) 1 = 0 ∧
    apartV (scaleL l den) (betL l m num den) 1 = num * apartV l m 1 ∧ apartV (betL l m num den) (scaleL m den) 1 = (den - num) * apartV l m 1 := by
  have := bet_said h h1 h2 (k := 1) rfl
  simpa using this
theorem bet_said2 {l m : List Atom} {num den : Int} (h : betErr l m num den = 0) (h1 : scaleErr l den = 0) (h2 : scaleErr m den = 0) :
    apartErr l m 2 = 0 ∧ apartErr (scaleL l den) (betL l m num den) 2 = 0 ∧ apartErr (betL l m num den) (scaleL m den) 2 = 0 ∧
    apartV (scaleL l den) (betL l m num den) 2 = num * num * apartV l m 2 ∧ apartV (betL l m num den) (scaleL m den) 2 = (den - num) * (den - num) * apartV l m 2 := by
  have := bet_said h h1 h2 (k := 2) rfl
  simpa using this
set_option maxRecDepth 20000 in
set_option maxHeartbeats 8000000 in
theorem lawBet (w : World) (a : Option Addr) (n c : Nat) (l : List Atom) (hl : Atoms w a l) (hn : l.length = n) (b : Option Addr) (k d : Nat) (m : List Atom) (hm : Atoms w b m) (hk : m.length = k) (x y : Int) :
    Calls Try.prog 11 #[.slice a n c, .slice b k d, .agg #[.int .i64 x, .int .i64 y]] w fun e w' => e = .returned (.bool true) ∧ Ext w w' := by
  subst hn hk
  have hE0 := ext_alloc w (.cells #[.int .i64 x, .int .i64 y] 53)
  have HB := Lib.hid (BlkC.new w #[.int .i64 x, .int .i64 y] 53)
  have hz := HB.out.lt
  go_enter Try.func11, Try.ntmps11
  go_wp2_with fail
  generalize (w.alloc (.cells #[.int .i64 x, .int .i64 y] 53)) = w0 at *
  refine (f17_c _ _ _ _).mono ?_
  rintro e w1 ⟨rfl, rfl⟩
  by_cases h1 : 100 < l.length
  · rw [decide_eq_true (show 100 < (l.length : Int) by omega)]
    go_wp2_with fail
    refine (f18_c _).mono ?_
    rintro e w99 ⟨rfl, hE99⟩
    go_wp2_with fail
    go_ret
    exact ⟨rfl, hE0.trans' hE99⟩
  rw [decide_eq_false (show ¬ 100 < (l.length : Int) by omega)]
  go_wp2_with fail
  refine (f17_c _ _ _ _).mono ?_
  rintro e w1 ⟨rfl, rfl⟩
  by_cases h2 : 100 < m.length
  · rw [decide_eq_true (show 100 < (m.length : Int) by omega)]
    go_wp2_with fail
    refine (f18_c _).mono ?_
    rintro e w99 ⟨rfl, hE99⟩
    go_wp2_with fail
    go_ret
    exact ⟨rfl, hE0.trans' hE99⟩
  rw [decide_eq_false (show ¬ 100 < (m.length : Int) by omega)]
  have hlen : l.length ≤ 140737488355328 := by omega
  have hlen2 : m.length ≤ 140737488355328 := by omega
  have hbl := bet_len l m x y
  have hX0 := Below.refl w0.heap.size w0
  have HBc := HB.out.ext hX0
  have g0 := HBc.cellv 0 (v := .int .i64 x) rfl
  have g1 := HBc.cellv 1 (v := .int .i64 y) rfl
  clear HBc
  go_wp2_with fail
  refine (f40_c a b l.length c m.length d l m x y _ (hl.ext hE0) rfl hlen (hm.ext hE0) rfl hlen2).mono ?_
  rintro e w1 ⟨v1, rfl, hrow, hX1⟩
  obtain ⟨a1, c1, rfl, hA1⟩ := atoms_of_row hrow
  clear hrow
  have hE1 := hE0.trans' hX1
  have HBc := HB.out.ext hX1
  have g0 := HBc.cellv 0 (v := .int .i64 x) rfl
  have g1 := HBc.cellv 1 (v := .int .i64 y) rfl
  clear HBc
  go_wp2_with fail
  refine (f41_c a b l.length c m.length d l m x y _ (hl.ext hE1) rfl hlen (hm.ext hE1) rfl hlen2).mono ?_
  rintro e w2 ⟨v2, rfl, hrow, hX2⟩
  obtain ⟨a2, c2, rfl, hA2⟩ := atoms_of_row hrow
  clear hrow
  have hE2 := hE1.trans' hX2
  have hA1 := hA1.ext hX2
  have hX2 := hX1.trans' hX2
  have hEE : (betErr l m x y != betErr l m x y) = false := by simp
  go_wp2_with fail
  refine (f21_same a1 a2 (betL l m x y).length (betL l m x y).length c1 c2 (betL l m x y) w2 hA1 hA2 rfl rfl (by omega)).mono ?_
  rintro e w3 ⟨rfl, hX3⟩
  have hE3 := hE2.trans' hX3
  have hA1 := hA1.ext hX3
  have hX3 := hX2.trans' hX3
  clear hA2 hX1 hX2 hX0 g0 g1
  by_cases h0 : betErr l m x y = 0
  case neg =>
    have hb : (betErr l m x y != 0) = true := by simp [h0]
    clear h0
    generalize betErr l m x y = E at *
    go_wp2_with fail
    refine (f18_c _).mono ?_
    rintro e w99 ⟨rfl, hE99⟩
    go_wp2_with fail
    go_ret
    exact ⟨rfl, hE3.trans' hE99⟩
  have hshare := shareB_ok (betErr_ok h0).2.1
  rw [h0]
  have HBc := HB.out.ext hX3
  have g0 := HBc.cellv 0 (v := .int .i64 x) rfl
  have g1 := HBc.cellv 1 (v := .int .i64 y) rfl
  clear HBc
  go_wp2_with fail
  refine (f39_c a l.length c l y _ (hl.ext hE3) rfl hlen).mono ?_
  rintro e w4 ⟨v4, rfl, hrow, hX4⟩
  obtain ⟨a4, c4, rfl, hA4⟩ := atoms_of_row hrow
  clear hrow
  have hE4 := hE3.trans' hX4
  have hA1 := hA1.ext hX4
  have hX4 := hX3.trans' hX4
  have HBc := HB.out.ext hX4
  have g0 := HBc.cellv 0 (v := .int .i64 x) rfl
  have g1 := HBc.cellv 1 (v := .int .i64 y) rfl
  clear HBc
  go_wp2_with fail
  refine (f39_c b m.length d m y _ (hm.ext hE4) rfl hlen2).mono ?_
  rintro e w5 ⟨v5, rfl, hrow, hX5⟩
  obtain ⟨a5, c5, rfl, hA5⟩ := atoms_of_row hrow
  clear hrow
  have hE5 := hE4.trans' hX5
  have hA1 := hA1.ext hX5
  have hA4 := hA4.ext hX5
  have hX5 := hX4.trans' hX5
  clear hX3 hX4
  by_cases h1 : scaleErr l y = 0
  case neg =>
    have hb : (scaleErr l y != 0) = true := by simp [h1]
    clear h1
    generalize scaleErr l y = E at *
    go_wp2_with fail
    refine (f18_c _).mono ?_
    rintro e w99 ⟨rfl, hE99⟩
    go_wp2_with fail
    go_ret
    exact ⟨rfl, hE5.trans' hE99⟩
  by_cases h2 : scaleErr m y = 0
  case neg =>
    have hb : (scaleErr m y != 0) = true := by simp [h2]
    rw [h1]
    clear h1 h2
    generalize scaleErr m y = E at *
    go_wp2_with fail
    refine (f18_c _).mono ?_
    rintro e w99 ⟨rfl, hE99⟩
    go_wp2_with fail
    go_ret
    exact ⟨rfl, hE5.trans' hE99⟩
  have hs1 : scaleV l y = scaleL l y := by unfold scaleV; rw [if_pos h1]
  have hs2 : scaleV m y = scaleL m y := by unfold scaleV; rw [if_pos h2]
  have HS1 := Lib.hid (bet_said1 h0 h1 h2)
  have HS2 := Lib.hid (bet_said2 h0 h1 h2)
  have hl1 := scaleL_length l y
  have hl2 := scaleL_length m y
  have hl3 : (scaleL l y).length ≤ 100 ∧ (scaleL m y).length ≤ 100 := by omega
  rw [hs1] at hA4
  rw [hs2] at hA5
  rw [h1, h2, hs1, hs2]
  clear hs1 hs2 h0 h1 h2 hl1 hl2
  have HB5 := Lib.hid (HB.out.ext hX5)
  have hz5 : w.heap.size < w5.heap.size := Nat.lt_of_lt_of_le hz hX5.size
  have HA1 := Lib.hid hA1
  have HA4 := Lib.hid hA4
  have HA5 := Lib.hid hA5
  have hw := IntWalk.i64_in (y - x) (by omega)
  generalize betL l m x y = A at *
  generalize scaleL l y = SL at *
  generalize scaleL m y = SM at *
  clear hA1 hA4 hA5 hX5 g0 g1
  go_wp2_with fail
  go_loopw [15] (fun i wr => ∃ p : Int, (1 ≤ p ∧ p ≤ 3) ∧ i = .int .i64 p ∧ Ext w5 wr) (fun i _ => (4 - intOf i).toNat)
  case atStart => exact ⟨1, by omega, rfl, Below.refl _ _⟩
  case round =>
    obtain ⟨p, hp, rfl, hX6⟩ := hrel
    have hE6 := hE5.trans' hX6
    by_cases hlt : p ≤ 2
    · have hB : 0 ≤ apartV l m p ∧ apartV l m p ≤ 576000000000000 := apart_bd (l := l) (m := m) p
      have C1 := fun W (hW : Ext w W) => f30_c a b l.length c m.length d l m p W (hl.ext hW) rfl hlen (hm.ext hW) rfl hlen2
      have C2 := fun W (hW : Ext w5 W) => f30_c a4 a1 SL.length c4 A.length c1 SL A p W (HA4.out.ext hW) rfl (by omega) (HA1.out.ext hW) rfl (by omega)
      have C3 := fun W (hW : Ext w5 W) => f30_c a1 a5 A.length c1 SM.length c5 A SM p W (HA1.out.ext hW) rfl (by omega) (HA5.out.ext hW) rfl (by omega)
      by_cases hp1 : p = 1
      · subst hp1
        obtain ⟨r1, r2, r3, r4, r5⟩ := HS1.out
        have HC1 := Lib.hid C1
        have C := HC1.out wr hE6
        rw [r1] at C
        have HC2 := Lib.hid (fun W (hW : Ext w5 W) => C2 W hW)
        have HC3 := Lib.hid (fun W (hW : Ext w5 W) => C3 W hW)
        have b2 := apart_bd (l := SL) (m := A) 1
        have b3 := apart_bd (l := A) (m := SM) 1
        have hq1 : (apartV SL A 1 != x * apartV l m 1) = false := by simp [r4]
        have hq2 : (apartV A SM 1 != (y - x) * apartV l m 1) = false := by simp [r5]
        have R2 := Lib.hid r2
        have R3 := Lib.hid r3
        clear C1 C2 C3 r1 r2 r3 r4 r5
        go_wp2_with fail
        refine C.mono ?_
        clear C
        rintro e w7 ⟨rfl, hX7⟩
        have hX7 := hX6.trans' hX7
        have C := HC2.out w7 hX7
        rw [R2.out] at C
        go_wp2_with fail
        refine C.mono ?_
        clear C
        rintro e w8 ⟨rfl, hX8⟩
        have hX8 := hX7.trans' hX8
        have C := HC3.out w8 hX8
        rw [R3.out] at C
        go_wp2_with fail
        refine C.mono ?_
        clear C
        rintro e w9 ⟨rfl, hX9⟩
        have hX9 := hX8.trans' hX9
        have HBc := HB5.out.ext hX9
        have g0 := HBc.cellv 0 (v := .int .i64 x) rfl
        have g1 := HBc.cellv 1 (v := .int .i64 y) rfl
        have hw9 : w.heap.size < w9.heap.size := Nat.lt_of_lt_of_le hz5 hX9.size
        clear HBc HC1 HC2 HC3
        generalize apartV l m 1 = V1 at *
        generalize apartV SL A 1 = V2 at *
        generalize apartV A SM 1 = V3 at *
        obtain ⟨wo, rfl⟩ : ∃ wo : World, wo = wr := ⟨_, rfl⟩
        go_wp2_with fail
        refine wp_region_ext (by kernel_rfl) (by kernel_rfl) ?_
        repeat (go_big_quiet_step (fail))
        refine wpQuiet_nil ?_
        intro w10 hX10
        have hX10 := hX9.trans' hX10
        have s3 := mulbd (a := x) (b := V1) (A := 3600) (B := 576000000000000) (by omega) (by omega)
        have s4 := mulbd (a := y - x) (b := V1) (A := 3600) (B := 576000000000000) (by omega) (by omega)
        have k3 := IntWalk.i64_in (x * V1) (by omega)
        have k4 := IntWalk.i64_in ((y - x) * V1) (by omega)
        go_wp2_with fail
        go_roundw
        case rel => exact ⟨2, by omega, by go_num, hX10⟩
        case measure => simp [intOf]
      have hp2 : p = 2 := by omega
      clear hp1
      subst hp2
      obtain ⟨r1, r2, r3, r4, r5⟩ := HS2.out
      have HC1 := Lib.hid C1
      have C := HC1.out wr hE6
      rw [r1] at C
      have HC2 := Lib.hid (fun W (hW : Ext w5 W) => C2 W hW)
      have HC3 := Lib.hid (fun W (hW : Ext w5 W) => C3 W hW)
      have b2 := apart_bd (l := SL) (m := A) 2
      have b3 := apart_bd (l := A) (m := SM) 2
      have hq1 : (apartV SL A 2 != (x * x) * apartV l m 2) = false := by simp [r4]
      have hq2 : (apartV A SM 2 != ((y - x) * (y - x)) * apartV l m 2) = false := by simp [r5]
      have R2 := Lib.hid r2
      have R3 := Lib.hid r3
      clear C1 C2 C3 r1 r2 r3 r4 r5
      go_wp2_with fail
      refine C.mono ?_
      clear C
      rintro e w7 ⟨rfl, hX7⟩
      have hX7 := hX6.trans' hX7
      have C := HC2.out w7 hX7
      rw [R2.out] at C
      go_wp2_with fail
      refine C.mono ?_
      clear C
      rintro e w8 ⟨rfl, hX8⟩
      have hX8 := hX7.trans' hX8
      have C := HC3.out w8 hX8
      rw [R3.out] at C
      go_wp2_with fail
      refine C.mono ?_
      clear C
      rintro e w9 ⟨rfl, hX9⟩
      have hX9 := hX8.trans' hX9
      have HBc := HB5.out.ext hX9
      have g0 := HBc.cellv 0 (v := .int .i64 x) rfl
      have g1 := HBc.cellv 1 (v := .int .i64 y) rfl
      have hw9 : w.heap.size < w9.heap.size := Nat.lt_of_lt_of_le hz5 hX9.size
      clear HBc HC1 HC2 HC3
      generalize apartV l m 2 = V1 at *
      generalize apartV SL A 2 = V2 at *
      generalize apartV A SM 2 = V3 at *
      obtain ⟨wo, rfl⟩ : ∃ wo : World, wo = wr := ⟨_, rfl⟩
      go_wp2_with fail
      refine wp_region_ext (by kernel_rfl) (by kernel_rfl) ?_
      repeat (go_big_quiet_step (fail))
      refine wpQuiet_nil ?_
      intro w10 hX10
      have hX10 := hX9.trans' hX10
      have s1 := mulbd (a := x) (b := x) (A := 60) (B := 60) (by omega) (by omega)
      have s2 := mulbd (a := y - x) (b := y - x) (A := 60) (B := 60) (by omega) (by omega)
      have k1 := IntWalk.i64_in (x * x) (by omega)
      have k2 := IntWalk.i64_in ((y - x) * (y - x)) (by omega)
      have s3 := mulbd (a := x * x) (b := V1) (A := 3600) (B := 576000000000000) (by omega) (by omega)
      have s4 := mulbd (a := (y - x) * (y - x)) (b := V1) (A := 3600) (B := 576000000000000) (by omega) (by omega)
      have k3 := IntWalk.i64_in (x * x * V1) (by omega)
      have k4 := IntWalk.i64_in ((y - x) * (y - x) * V1) (by omega)
      go_wp2_with fail
      go_roundw
      case rel => exact ⟨3, by omega, by go_num, hX10⟩
      case measure => simp [intOf]
    · clear HS1 HS2
      obtain ⟨wo, rfl⟩ : ∃ wo : World, wo = wr := ⟨_, rfl⟩
      go_wp2_with fail
      refine (f18_c _).mono ?_
      rintro e w99 ⟨rfl, hE99⟩
      go_wp2_with fail
      go_ret
      exact ⟨rfl, hE6.trans' hE99⟩
end Go.Proofs.Ytgnjaapjaglleaa
