/- Mean and Spread. -/
import Derived.Test.YtfhgnmijigdlmaaT23
namespace Go.Proofs.Ytfhgnmijigdlmaa
open Go.RowKit
attribute [local go_sem] GW.cell
def meanErr (l : List Atom) : Int := if valLoad l ≠ 0 then valLoad l else if totalL l = 0 then 6 else 0
def m1L (l : List Atom) : Int := momTo (fun p => p) l l.length
def m2L (l : List Atom) : Int := momTo (fun p => p * p) l l.length
def meanN (l : List Atom) : Int := if meanErr l = 0 then ratN (m1L l) (totalL l) else 0
def meanD (l : List Atom) : Int := if meanErr l = 0 then ratD (m1L l) (totalL l) else 0
def sprN (l : List Atom) : Int := if meanErr l = 0 then ratN (m2L l * totalL l - m1L l * m1L l) (totalL l * totalL l) else 0
def sprD (l : List Atom) : Int := if meanErr l = 0 then ratD (m2L l * totalL l - m1L l * m1L l) (totalL l * totalL l) else 0
theorem mean_bad {l : List Atom} (h : meanErr l ≠ 0) : meanN l = 0 ∧ meanD l = 0 ∧ sprN l = 0 ∧ sprD l = 0 := by
  unfold meanN meanD sprN sprD; rw [if_neg h, if_neg h, if_neg h, if_neg h]; exact ⟨rfl, rfl, rfl, rfl⟩
theorem mean_ok {l : List Atom} (h : meanErr l = 0) : meanN l = ratN (m1L l) (totalL l) ∧ meanD l = ratD (m1L l) (totalL l) ∧ sprN l = ratN (m2L l * totalL l - m1L l * m1L l) (totalL l * totalL l) ∧ sprD l = ratD (m2L l * totalL l - m1L l * m1L l) (totalL l * totalL l) := by
  unfold meanN meanD sprN sprD; rw [if_pos h, if_pos h, if_pos h, if_pos h]; exact ⟨rfl, rfl, rfl, rfl⟩
theorem meanErr_1 {l : List Atom} (h : valLoad l ≠ 0) : meanErr l = valLoad l := by unfold meanErr; rw [if_pos h]
theorem meanErr_2 {l : List Atom} (h : valLoad l = 0) (h2 : totalL l = 0) : meanErr l = 6 := by unfold meanErr; rw [if_neg (by simpa using h), if_pos h2]
theorem meanErr_3 {l : List Atom} (h : valLoad l = 0) (h2 : totalL l ≠ 0) : meanErr l = 0 := by unfold meanErr; rw [if_neg (by simpa using h), if_neg h2]
theorem meanErr_ok {l : List Atom} (h : meanErr l = 0) : valLoad l = 0 ∧ 1 ≤ totalL l := by
  unfold meanErr at h
  by_cases h1 : valLoad l = 0
  · rw [if_neg (by simpa using h1)] at h
    by_cases h2 : totalL l = 0
    · rw [if_pos h2] at h; exact absurd h (by decide)
    · have := load_total h1; exact ⟨h1, by omega⟩
  · rw [if_pos h1] at h; exact absurd h h1
theorem units_m1 {l : List Atom} (h : valLoad l = 0) : s1To (unitsL l) (unitsL l).length = m1L l ∧ s2To (unitsL l) (unitsL l).length = m2L l ∧ ((unitsL l).length : Int) = totalL l := by
  have hF := fine_load h
  have hm : ∀ i, (hi : i < l.length) → 0 ≤ l[i].m := fun i hi => by have := hF.2 i hi; omega
  refine ⟨?_, ?_, units_len hF⟩
  · unfold s1To m1L; rw [← units_sum_all hm, ← sumR_list]
  · unfold s2To m2L; rw [← units_sum_all hm, ← sumR_list (unitsL l) (fun p => p * p)]
theorem units_place {l : List Atom} (h : valLoad l = 0) {i : Nat} (hi : i < (unitsL l).length) : -1000 ≤ gi (unitsL l) i ∧ gi (unitsL l) i ≤ 1000 := by
  have hm := gi_mem hi
  obtain ⟨x, hx, e⟩ : ∃ x ∈ l, x.p = gi (unitsL l) i := by
    unfold unitsL at hm
    rw [List.mem_flatMap] at hm
    obtain ⟨x, hx, h2⟩ := hm
    rw [List.mem_replicate] at h2
    exact ⟨x, hx, h2.2.symm⟩
  obtain ⟨k, hk, rfl⟩ := List.getElem_of_mem hx
  have := loadk_in h hk
  omega
theorem s1To_bd {l : List Atom} (h : valLoad l = 0) : ∀ k, k ≤ (unitsL l).length → -(k * 1000) ≤ s1To (unitsL l) k ∧ s1To (unitsL l) k ≤ k * 1000
  | 0, _ => by simp [s1To, sumR]
  | k + 1, hk => by
    have ih := s1To_bd h k (by omega)
    have h1 := units_place h (show k < (unitsL l).length by omega)
    have e : s1To (unitsL l) (k + 1) = s1To (unitsL l) k + gi (unitsL l) k := rfl
    omega
theorem price2_bd {x y : Int} (hx : -1000 ≤ x ∧ x ≤ 1000) (hy : -1000 ≤ y ∧ y ≤ 1000) : 0 ≤ priceV x y 2 ∧ priceV x y 2 ≤ 4000000 := by
  rw [priceV_two]
  have := mulbd (a := y - x) (b := y - x) (A := 2000) (B := 2000) (by omega) (by omega)
  have h2 : 0 ≤ (y - x) * (y - x) := by
    rcases Int.le_total 0 (y - x) with h | h
    · exact Int.mul_nonneg h h
    · exact Int.mul_nonneg_of_nonpos_of_nonpos h h
  omega
theorem sqTo2_bd {l : List Atom} (h : valLoad l = 0) {i : Nat} (hi : i < (unitsL l).length) : ∀ k, k ≤ (unitsL l).length → 0 ≤ sqTo2 (unitsL l) i k ∧ sqTo2 (unitsL l) i k ≤ k * 4000000
  | 0, _ => by simp [sqTo2, sumR]
  | k + 1, hk => by
    have ih := sqTo2_bd h hi k (by omega)
    have h1 := price2_bd (units_place h hi) (units_place h (show k < (unitsL l).length by omega))
    have e : sqTo2 (unitsL l) i (k + 1) = sqTo2 (unitsL l) i k + priceV (gi (unitsL l) i) (gi (unitsL l) k) 2 := rfl
    omega
theorem sprTo_bd {l : List Atom} (h : valLoad l = 0) (h180 : (unitsL l).length ≤ 180) : ∀ k, k ≤ (unitsL l).length → 0 ≤ sprTo (unitsL l) k ∧ sprTo (unitsL l) k ≤ k * 720000000
  | 0, _ => by simp [sprTo, sumR]
  | k + 1, hk => by
    have ih := sprTo_bd h h180 k (by omega)
    have h1 := sqTo2_bd h (show k < (unitsL l).length by omega) k (by omega)
    have e : sprTo (unitsL l) (k + 1) = sprTo (unitsL l) k + sqTo2 (unitsL l) k k := rfl
    omega
set_option maxRecDepth 20000 in
set_option maxHeartbeats 4000000 in
theorem f52_c (a : Option Addr) (n c : Nat) (l : List Atom) (w : World) (hl : Atoms w a l) (hn : l.length = n) (hlen : n ≤ 1000000) :
    Calls Try.prog 52 #[.slice a n c] w fun e w' => e = .returned (.tuple #[.agg #[.int .i64 (meanN l), .int .i64 (meanD l)], .int .i64 (meanErr l)]) ∧ Ext w w' := by
  have C1 := fun W (h : Ext w W) => f47_c a n c l W (hl.ext h) hn (by omega)
  have HB0 := Lib.hid (BlkC.new w #[.int .i64 0, .int .i64 0] 63)
  have hE0 := ext_alloc w (.cells #[.int .i64 0, .int .i64 0] 63)
  by_cases h0 : valLoad l = 0
  case neg =>
    have hb : (valLoad l != 0) = true := by simp [h0]
    have eE := meanErr_1 h0
    obtain ⟨e1, e2, e3, e4⟩ := mean_bad (l := l) (by rw [eE]; exact h0)
    rw [e1, e2, eE]
    have C1 := Lib.hid C1
    clear h0 eE e1 e2 e3 e4 hn
    generalize valLoad l = E at *
    go_enter Try.func52, Try.ntmps52
    go_wp2_with fail
    generalize (w.alloc (.cells #[.int .i64 0, .int .i64 0] 63)) = w0 at *
    refine (C1.out _ hE0).mono ?_
    rintro e w1 ⟨rfl, hX1⟩
    have hE1 := hE0.trans' hX1
    have HB8 := HB0.out.ext hX1
    have g0 := HB8.cellv 0 (v := .int .i64 0) rfl
    have g1 := HB8.cellv 1 (v := .int .i64 0) rfl
    have gf := fun i => HB8.frozen i
    go_wp2_with fail
    refine bodyPost_ret (v := .tuple #[.agg #[.int .i64 0, .int .i64 0], .int .i64 E]) (by simp [results, Try.results52, go_sem, g0, g1]) rfl ⟨rfl, ?_⟩
    exact (hE1.setCell (Nat.le_refl _) _).setCell (Nat.le_refl _) _
  rw [h0] at C1
  have C1 := Lib.hid C1
  have C2 := Lib.hid (fun W (h : Ext w W) => f95_c a n c l W (hl.ext h) hn h0)
  have h6 := (listErr_ok h0).1
  have q1 := mom1_bd h0 l.length (Nat.le_refl _)
  have q2 := mom2_bd h0 l.length (Nat.le_refl _)
  have qt := load_total h0
  by_cases ht : totalL l = 0
  case pos =>
    have eE := meanErr_2 h0 ht
    obtain ⟨e1, e2, e3, e4⟩ := mean_bad (l := l) (by rw [eE]; decide)
    rw [e1, e2, eE]
    have hb : (totalL l == 0) = true := by simpa using ht
    clear eE e1 e2 e3 e4 h0 ht hn
    generalize totalL l = T at *
    generalize momTo (fun p => p) l l.length = M1 at *
    generalize momTo (fun p => p * p) l l.length = M2 at *
    go_enter Try.func52, Try.ntmps52
    go_wp2_with fail
    generalize (w.alloc (.cells #[.int .i64 0, .int .i64 0] 63)) = w0 at *
    refine (C1.out _ hE0).mono ?_
    rintro e w1 ⟨rfl, hX1⟩
    have hE1 := hE0.trans' hX1
    go_wp2_with fail
    refine (C2.out _ hE1).mono ?_
    rintro e w2 ⟨rfl, hX2⟩
    have hE2 := hE1.trans' hX2
    have hY2 := hX1.trans' hX2
    have HB8 := HB0.out.ext hY2
    have g0 := HB8.cellv 0 (v := .int .i64 0) rfl
    have g1 := HB8.cellv 1 (v := .int .i64 0) rfl
    have gf := fun i => HB8.frozen i
    go_wp2_with fail
    refine bodyPost_ret (v := .tuple #[.agg #[.int .i64 0, .int .i64 0], .int .i64 6]) (by simp [results, Try.results52, go_sem, g0, g1]) rfl ⟨rfl, ?_⟩
    exact (hE2.setCell (Nat.le_refl _) _).setCell (Nat.le_refl _) _
  have eE := meanErr_3 h0 ht
  obtain ⟨e1, e2, e3, e4⟩ := mean_ok eE
  rw [e1, e2, eE]
  unfold m1L
  have hb : (totalL l == 0) = false := by simpa using ht
  have hT1 : 1 ≤ totalL l := by omega
  have b1 : -180000 ≤ momTo (fun p => p) l l.length ∧ momTo (fun p => p) l l.length ≤ 180000 := by omega
  have b2 : 0 ≤ momTo (fun p => p * p) l l.length ∧ momTo (fun p => p * p) l l.length ≤ 180000000 := by omega
  clear eE e1 e2 e3 e4 h0 ht hn q1 q2
  generalize totalL l = T at *
  generalize momTo (fun p => p) l l.length = M1 at *
  generalize momTo (fun p => p * p) l l.length = M2 at *
  have C3 := Lib.hid (fun W => f96_c M1 T W (by omega) (by omega))
  simp only [fracV] at C3
  generalize ratN M1 T = rn at *
  generalize ratD M1 T = rd at *
  go_enter Try.func52, Try.ntmps52
  go_wp2_with fail
  generalize (w.alloc (.cells #[.int .i64 0, .int .i64 0] 63)) = w0 at *
  refine (C1.out _ hE0).mono ?_
  rintro e w1 ⟨rfl, hX1⟩
  have hE1 := hE0.trans' hX1
  go_wp2_with fail
  refine (C2.out _ hE1).mono ?_
  rintro e w2 ⟨rfl, hX2⟩
  have hE2 := hE1.trans' hX2
  have hY2 := hX1.trans' hX2
  go_wp2_with fail
  refine (C3.out _).mono ?_
  rintro e w3 ⟨rfl, hX3⟩
  have hE3 := hE2.trans' hX3
  have hY3 := hY2.trans' hX3
  have HB8 := HB0.out.ext hY3
  have g0 := HB8.cellv 0 (v := .int .i64 0) rfl
  have g1 := HB8.cellv 1 (v := .int .i64 0) rfl
  have gf := fun i => HB8.frozen i
  go_wp2_with fail
  refine bodyPost_ret (v := .tuple #[.agg #[.int .i64 rn, .int .i64 rd], .int .i64 0]) (by simp [results, Try.results52, go_sem, g0, g1]) rfl ⟨rfl, ?_⟩
  exact (hE3.setCell (Nat.le_refl _) _).setCell (Nat.le_refl _) _
set_option maxRecDepth 20000 in
set_option maxHeartbeats 4000000 in
theorem f54_c (a : Option Addr) (n c : Nat) (l : List Atom) (w : World) (hl : Atoms w a l) (hn : l.length = n) (hlen : n ≤ 1000000) :
    Calls Try.prog 54 #[.slice a n c] w fun e w' => e = .returned (.tuple #[.agg #[.int .i64 (sprN l), .int .i64 (sprD l)], .int .i64 (meanErr l)]) ∧ Ext w w' := by
  have C1 := fun W (h : Ext w W) => f47_c a n c l W (hl.ext h) hn (by omega)
  have HB0 := Lib.hid (BlkC.new w #[.int .i64 0, .int .i64 0] 63)
  have hE0 := ext_alloc w (.cells #[.int .i64 0, .int .i64 0] 63)
  by_cases h0 : valLoad l = 0
  case neg =>
    have hb : (valLoad l != 0) = true := by simp [h0]
    have eE := meanErr_1 h0
    obtain ⟨e1, e2, e3, e4⟩ := mean_bad (l := l) (by rw [eE]; exact h0)
    rw [e3, e4, eE]
    have C1 := Lib.hid C1
    clear h0 eE e1 e2 e3 e4 hn
    generalize valLoad l = E at *
    go_enter Try.func54, Try.ntmps54
    go_wp2_with fail
    generalize (w.alloc (.cells #[.int .i64 0, .int .i64 0] 63)) = w0 at *
    refine (C1.out _ hE0).mono ?_
    rintro e w1 ⟨rfl, hX1⟩
    have hE1 := hE0.trans' hX1
    have HB8 := HB0.out.ext hX1
    have g0 := HB8.cellv 0 (v := .int .i64 0) rfl
    have g1 := HB8.cellv 1 (v := .int .i64 0) rfl
    have gf := fun i => HB8.frozen i
    go_wp2_with fail
    refine bodyPost_ret (v := .tuple #[.agg #[.int .i64 0, .int .i64 0], .int .i64 E]) (by simp [results, Try.results54, go_sem, g0, g1]) rfl ⟨rfl, ?_⟩
    exact (hE1.setCell (Nat.le_refl _) _).setCell (Nat.le_refl _) _
  rw [h0] at C1
  have C1 := Lib.hid C1
  have C2 := Lib.hid (fun W (h : Ext w W) => f95_c a n c l W (hl.ext h) hn h0)
  have h6 := (listErr_ok h0).1
  have q1 := mom1_bd h0 l.length (Nat.le_refl _)
  have q2 := mom2_bd h0 l.length (Nat.le_refl _)
  have qt := load_total h0
  by_cases ht : totalL l = 0
  case pos =>
    have eE := meanErr_2 h0 ht
    obtain ⟨e1, e2, e3, e4⟩ := mean_bad (l := l) (by rw [eE]; decide)
    rw [e3, e4, eE]
    have hb : (totalL l == 0) = true := by simpa using ht
    clear eE e1 e2 e3 e4 h0 ht hn
    generalize totalL l = T at *
    generalize momTo (fun p => p) l l.length = M1 at *
    generalize momTo (fun p => p * p) l l.length = M2 at *
    go_enter Try.func54, Try.ntmps54
    go_wp2_with fail
    generalize (w.alloc (.cells #[.int .i64 0, .int .i64 0] 63)) = w0 at *
    refine (C1.out _ hE0).mono ?_
    rintro e w1 ⟨rfl, hX1⟩
    have hE1 := hE0.trans' hX1
    go_wp2_with fail
    refine (C2.out _ hE1).mono ?_
    rintro e w2 ⟨rfl, hX2⟩
    have hE2 := hE1.trans' hX2
    have hY2 := hX1.trans' hX2
    have HB8 := HB0.out.ext hY2
    have g0 := HB8.cellv 0 (v := .int .i64 0) rfl
    have g1 := HB8.cellv 1 (v := .int .i64 0) rfl
    have gf := fun i => HB8.frozen i
    go_wp2_with fail
    refine bodyPost_ret (v := .tuple #[.agg #[.int .i64 0, .int .i64 0], .int .i64 6]) (by simp [results, Try.results54, go_sem, g0, g1]) rfl ⟨rfl, ?_⟩
    exact (hE2.setCell (Nat.le_refl _) _).setCell (Nat.le_refl _) _
  have eE := meanErr_3 h0 ht
  obtain ⟨e1, e2, e3, e4⟩ := mean_ok eE
  rw [e3, e4, eE]
  unfold m1L m2L
  have hb : (totalL l == 0) = false := by simpa using ht
  have hT1 : 1 ≤ totalL l := by omega
  have b1 : -180000 ≤ momTo (fun p => p) l l.length ∧ momTo (fun p => p) l l.length ≤ 180000 := by omega
  have b2 : 0 ≤ momTo (fun p => p * p) l l.length ∧ momTo (fun p => p * p) l l.length ≤ 180000000 := by omega
  clear eE e1 e2 e3 e4 h0 ht hn q1 q2
  generalize totalL l = T at *
  generalize momTo (fun p => p) l l.length = M1 at *
  generalize momTo (fun p => p * p) l l.length = M2 at *
  have k1 := mulbd (a := M2) (b := T) (A := 180000000) (B := 180) (by omega) (by omega)
  have k2 := mulbd (a := M1) (b := M1) (A := 180000) (B := 180000) (by omega) (by omega)
  have k3 := mulbd (a := T) (b := T) (A := 180) (B := 180) (by omega) (by omega)
  have k4 : 1 ≤ T * T := by have := Int.mul_le_mul hT1 hT1 (by omega) (by omega); omega
  have C3 := Lib.hid (fun W => f96_c (M2 * T - M1 * M1) (T * T) W (by omega) (by omega))
  simp only [fracV] at C3
  have w1 : IntKind.i64.wrap (M2 * T) = M2 * T := IntWalk.i64_in _ (by omega)
  have w2 : IntKind.i64.wrap (M1 * M1) = M1 * M1 := IntWalk.i64_in _ (by omega)
  have w3 : IntKind.i64.wrap (M2 * T - M1 * M1) = M2 * T - M1 * M1 := IntWalk.i64_in _ (by omega)
  have w4 : IntKind.i64.wrap (T * T) = T * T := IntWalk.i64_in _ (by omega)
  clear k1 k2 k3 k4
  generalize ratN (M2 * T - M1 * M1) (T * T) = rn at *
  generalize ratD (M2 * T - M1 * M1) (T * T) = rd at *
  go_enter Try.func54, Try.ntmps54
  go_wp2_with fail
  generalize (w.alloc (.cells #[.int .i64 0, .int .i64 0] 63)) = w0 at *
  refine (C1.out _ hE0).mono ?_
  rintro e w1 ⟨rfl, hX1⟩
  have hE1 := hE0.trans' hX1
  go_wp2_with fail
  refine (C2.out _ hE1).mono ?_
  rintro e w2 ⟨rfl, hX2⟩
  have hE2 := hE1.trans' hX2
  have hY2 := hX1.trans' hX2
  go_wp2_with fail
  refine (C3.out _).mono ?_
  rintro e w3 ⟨rfl, hX3⟩
  have hE3 := hE2.trans' hX3
  have hY3 := hY2.trans' hX3
  have HB8 := HB0.out.ext hY3
  have g0 := HB8.cellv 0 (v := .int .i64 0) rfl
  have g1 := HB8.cellv 1 (v := .int .i64 0) rfl
  have gf := fun i => HB8.frozen i
  go_wp2_with fail
  refine bodyPost_ret (v := .tuple #[.agg #[.int .i64 rn, .int .i64 rd], .int .i64 0]) (by simp [results, Try.results54, go_sem, g0, g1]) rfl ⟨rfl, ?_⟩
  exact (hE3.setCell (Nat.le_refl _) _).setCell (Nat.le_refl _) _
set_option maxRecDepth 20000 in
set_option maxHeartbeats 4000000 in
theorem f53_c (a : Option Addr) (n c : Nat) (l : List Atom) (w : World) (hl : Atoms w a l) (hn : l.length = n) (hlen : n ≤ 1000000) :
    Calls Try.prog 53 #[.slice a n c] w fun e w' => e = .returned (.tuple #[.agg #[.int .i64 (meanN l), .int .i64 (meanD l)], .int .i64 (meanErr l)]) ∧ Ext w w' := by
  have C1 := fun W (h : Ext w W) => f48_c a n c l W (hl.ext h) hn (by omega)
  have HB0 := Lib.hid (BlkC.new w #[.int .i64 0, .int .i64 0] 63)
  have hE0 := ext_alloc w (.cells #[.int .i64 0, .int .i64 0] 63)
  by_cases h0 : valLoad l = 0
  case neg =>
    have hb : (valLoad l != 0) = true := by simp [h0]
    have eE := meanErr_1 h0
    obtain ⟨e1, e2, e3, e4⟩ := mean_bad (l := l) (by rw [eE]; exact h0)
    rw [e1, e2, eE]
    have C1 := Lib.hid C1
    clear h0 eE e1 e2 e3 e4 hn
    generalize valLoad l = E at *
    go_enter Try.func53, Try.ntmps53
    go_wp2_with fail
    generalize (w.alloc (.cells #[.int .i64 0, .int .i64 0] 63)) = w0 at *
    refine (C1.out _ hE0).mono ?_
    rintro e w1 ⟨rfl, hX1⟩
    have hE1 := hE0.trans' hX1
    have HB8 := HB0.out.ext hX1
    have g0 := HB8.cellv 0 (v := .int .i64 0) rfl
    have g1 := HB8.cellv 1 (v := .int .i64 0) rfl
    have gf := fun i => HB8.frozen i
    go_wp2_with fail
    refine bodyPost_ret (v := .tuple #[.agg #[.int .i64 0, .int .i64 0], .int .i64 E]) (by simp [results, Try.results53, go_sem, g0, g1]) rfl ⟨rfl, ?_⟩
    exact (hE1.setCell (Nat.le_refl _) _).setCell (Nat.le_refl _) _
  rw [h0] at C1
  have C1 := Lib.hid C1
  have C2 := Lib.hid (fun W (h : Ext w W) => f82_c a n c l W (hl.ext h) hn (fine_load h0))
  obtain ⟨u1, u2, u3⟩ := units_m1 h0
  have qt := load_total h0
  have h180 : (unitsL l).length ≤ 180 := by omega
  by_cases ht : totalL l = 0
  case pos =>
    have eE := meanErr_2 h0 ht
    obtain ⟨e1, e2, e3, e4⟩ := mean_bad (l := l) (by rw [eE]; decide)
    rw [e1, e2, eE]
    have hb : (((unitsL l).length : Int) == 0) = true := by rw [u3]; simpa using ht
    clear eE e1 e2 e3 e4 h0 ht hn u1 u2 u3
    generalize unitsL l = U at *
    go_enter Try.func53, Try.ntmps53
    go_wp2_with fail
    generalize (w.alloc (.cells #[.int .i64 0, .int .i64 0] 63)) = w0 at *
    refine (C1.out _ hE0).mono ?_
    rintro e w1 ⟨rfl, hX1⟩
    have hE1 := hE0.trans' hX1
    go_wp2_with fail
    refine (C2.out _ hE1).mono ?_
    rintro e w2 ⟨aU, cU, rfl, hU, hX2⟩
    have hE2 := hE1.trans' hX2
    have hY2 := hX1.trans' hX2
    have HU := Lib.hid hU
    clear hU
    have HB8 := HB0.out.ext hY2
    have g0 := HB8.cellv 0 (v := .int .i64 0) rfl
    have g1 := HB8.cellv 1 (v := .int .i64 0) rfl
    have gf := fun i => HB8.frozen i
    go_wp2_with fail
    refine bodyPost_ret (v := .tuple #[.agg #[.int .i64 0, .int .i64 0], .int .i64 6]) (by simp [results, Try.results53, go_sem, g0, g1]) rfl ⟨rfl, ?_⟩
    exact (hE2.setCell (Nat.le_refl _) _).setCell (Nat.le_refl _) _
  have eE := meanErr_3 h0 ht
  obtain ⟨e1, e2, e3, e4⟩ := mean_ok eE
  rw [e1, e2, eE]
  have hb : (((unitsL l).length : Int) == 0) = false := by rw [u3]; simpa using ht
  have hN1 : 1 ≤ (unitsL l).length := by omega
  rw [← u1, ← u3]
  have HP := Lib.hid (fun i (hi : i < (unitsL l).length) => units_place h0 hi)
  have HS := Lib.hid (fun k hk => s1To_bd h0 k hk)
  have Hs : Hid (∀ k, s1To (unitsL l) (k + 1) = s1To (unitsL l) k + gi (unitsL l) k) := Lib.hid fun k => rfl
  have Z0 : Hid (s1To (unitsL l) 0 = 0) := Lib.hid rfl
  clear eE e1 e2 e3 e4 h0 ht hn u1 u2 u3 qt
  generalize unitsL l = U at *
  have qe := HS.out U.length (Nat.le_refl _)
  have C3 := Lib.hid (fun W => f97_c (s1To U U.length) (U.length : Int) W (by omega) (by omega))
  simp only [fracV] at C3
  generalize ratN (s1To U U.length) U.length = rn at *
  generalize ratD (s1To U U.length) U.length = rd at *
  generalize s1To U = sU at *
  clear qe
  go_enter Try.func53, Try.ntmps53
  go_wp2_with fail
  generalize (w.alloc (.cells #[.int .i64 0, .int .i64 0] 63)) = w0 at *
  refine (C1.out _ hE0).mono ?_
  rintro e w1 ⟨rfl, hX1⟩
  have hE1 := hE0.trans' hX1
  go_wp2_with fail
  refine (C2.out _ hE1).mono ?_
  rintro e w2 ⟨aU, cU, rfl, hU, hX2⟩
  have hE2 := hE1.trans' hX2
  have hY2 := hX1.trans' hX2
  have HU := Lib.hid hU
  clear hU
  go_wp2_with fail
  go_loopw [6, 7] (fun x i wr => ∃ k : Nat, k ≤ U.length ∧ x = .int .i64 (sU k) ∧ i = .int .i64 k ∧ Ext w2 wr) (fun _ i _ => U.length - (intOf i).toNat)
  case atStart => exact ⟨0, Nat.zero_le _, by rw [Z0.out], rfl, Below.refl _ _⟩
  case round =>
    obtain ⟨k, hk, rfl, rfl, hX⟩ := hrel
    by_cases hlt : k < U.length
    · obtain ⟨bu, ou, rfl, hbu, hcu⟩ := HU.out.ext hX k hlt
      rw [← gi_at] at hcu
      have t1 := HP.out k hlt
      have t2 := HS.out k hk
      have S1 := Lib.hid (Hs.out k)
      generalize gi U k = x at *
      have w5 : IntKind.i64.wrap (sU k + x) = sU k + x := IntWalk.i64_in _ (by omega)
      go_wp2_with fail
      go_roundw
      case rel => exact ⟨k + 1, by omega, by rw [S1.out], by go_num, hX⟩
      case measure => simp [intOf]; omega
    · obtain rfl : k = U.length := by omega
      go_wp2_with fail
      refine (C3.out _).mono ?_
      rintro e w3 ⟨rfl, hX3⟩
      have hE3 := (hE2.trans' hX).trans' hX3
      have hY3 := (hY2.trans' hX).trans' hX3
      have HB8 := HB0.out.ext hY3
      have g0 := HB8.cellv 0 (v := .int .i64 0) rfl
      have g1 := HB8.cellv 1 (v := .int .i64 0) rfl
      have gf := fun i => HB8.frozen i
      go_wp2_with fail
      refine bodyPost_ret (v := .tuple #[.agg #[.int .i64 rn, .int .i64 rd], .int .i64 0]) (by simp [results, Try.results53, go_sem, g0, g1]) rfl ⟨rfl, ?_⟩
      exact (hE3.setCell (Nat.le_refl _) _).setCell (Nat.le_refl _) _
set_option maxRecDepth 20000 in
set_option maxHeartbeats 4000000 in
theorem f55_c (a : Option Addr) (n c : Nat) (l : List Atom) (w : World) (hl : Atoms w a l) (hn : l.length = n) (hlen : n ≤ 1000000) :
    Calls Try.prog 55 #[.slice a n c] w fun e w' => e = .returned (.tuple #[.agg #[.int .i64 (sprN l), .int .i64 (sprD l)], .int .i64 (meanErr l)]) ∧ Ext w w' := by
  have C1 := fun W (h : Ext w W) => f48_c a n c l W (hl.ext h) hn (by omega)
  have HB0 := Lib.hid (BlkC.new w #[.int .i64 0, .int .i64 0] 63)
  have hE0 := ext_alloc w (.cells #[.int .i64 0, .int .i64 0] 63)
  by_cases h0 : valLoad l = 0
  case neg =>
    have hb : (valLoad l != 0) = true := by simp [h0]
    have eE := meanErr_1 h0
    obtain ⟨e1, e2, e3, e4⟩ := mean_bad (l := l) (by rw [eE]; exact h0)
    rw [e3, e4, eE]
    have C1 := Lib.hid C1
    clear h0 eE e1 e2 e3 e4 hn
    generalize valLoad l = E at *
    go_enter Try.func55, Try.ntmps55
    go_wp2_with fail
    generalize (w.alloc (.cells #[.int .i64 0, .int .i64 0] 63)) = w0 at *
    refine (C1.out _ hE0).mono ?_
    rintro e w1 ⟨rfl, hX1⟩
    have hE1 := hE0.trans' hX1
    have HB8 := HB0.out.ext hX1
    have g0 := HB8.cellv 0 (v := .int .i64 0) rfl
    have g1 := HB8.cellv 1 (v := .int .i64 0) rfl
    have gf := fun i => HB8.frozen i
    go_wp2_with fail
    refine bodyPost_ret (v := .tuple #[.agg #[.int .i64 0, .int .i64 0], .int .i64 E]) (by simp [results, Try.results55, go_sem, g0, g1]) rfl ⟨rfl, ?_⟩
    exact (hE1.setCell (Nat.le_refl _) _).setCell (Nat.le_refl _) _
  rw [h0] at C1
  have C1 := Lib.hid C1
  have C2 := Lib.hid (fun W (h : Ext w W) => f82_c a n c l W (hl.ext h) hn (fine_load h0))
  obtain ⟨u1, u2, u3⟩ := units_m1 h0
  have qt := load_total h0
  have h180 : (unitsL l).length ≤ 180 := by omega
  by_cases ht : totalL l = 0
  case pos =>
    have eE := meanErr_2 h0 ht
    obtain ⟨e1, e2, e3, e4⟩ := mean_bad (l := l) (by rw [eE]; decide)
    rw [e3, e4, eE]
    have hb : (((unitsL l).length : Int) == 0) = true := by rw [u3]; simpa using ht
    clear eE e1 e2 e3 e4 h0 ht hn u1 u2 u3
    generalize unitsL l = U at *
    go_enter Try.func55, Try.ntmps55
    go_wp2_with fail
    generalize (w.alloc (.cells #[.int .i64 0, .int .i64 0] 63)) = w0 at *
    refine (C1.out _ hE0).mono ?_
    rintro e w1 ⟨rfl, hX1⟩
    have hE1 := hE0.trans' hX1
    go_wp2_with fail
    refine (C2.out _ hE1).mono ?_
    rintro e w2 ⟨aU, cU, rfl, hU, hX2⟩
    have hE2 := hE1.trans' hX2
    have hY2 := hX1.trans' hX2
    have HU := Lib.hid hU
    clear hU
    have HB8 := HB0.out.ext hY2
    have g0 := HB8.cellv 0 (v := .int .i64 0) rfl
    have g1 := HB8.cellv 1 (v := .int .i64 0) rfl
    have gf := fun i => HB8.frozen i
    go_wp2_with fail
    refine bodyPost_ret (v := .tuple #[.agg #[.int .i64 0, .int .i64 0], .int .i64 6]) (by simp [results, Try.results55, go_sem, g0, g1]) rfl ⟨rfl, ?_⟩
    exact (hE2.setCell (Nat.le_refl _) _).setCell (Nat.le_refl _) _
  have eE := meanErr_3 h0 ht
  obtain ⟨e1, e2, e3, e4⟩ := mean_ok eE
  rw [e3, e4, eE]
  have hb : (((unitsL l).length : Int) == 0) = false := by rw [u3]; simpa using ht
  have hN1 : 1 ≤ (unitsL l).length := by omega
  have hs := sprTo_eq (unitsL l) (unitsL l).length
  rw [u1, u2, u3, Int.mul_comm] at hs
  rw [← hs, ← u3]
  have HP := Lib.hid (fun i (hi : i < (unitsL l).length) => units_place h0 hi)
  have HS := Lib.hid (fun k hk => sprTo_bd h0 h180 k hk)
  have HQ := Lib.hid (fun i (hi : i < (unitsL l).length) k hk => sqTo2_bd h0 hi k hk)
  have Hs : Hid (∀ k, sprTo (unitsL l) (k + 1) = sprTo (unitsL l) k + sqTo2 (unitsL l) k k) := Lib.hid fun k => rfl
  have Hq : Hid (∀ i k, sqTo2 (unitsL l) i (k + 1) = sqTo2 (unitsL l) i k + priceV (gi (unitsL l) i) (gi (unitsL l) k) 2) := Lib.hid fun i k => rfl
  have Z0 : Hid (sprTo (unitsL l) 0 = 0) := Lib.hid rfl
  have Zq : Hid (∀ i, sqTo2 (unitsL l) i 0 = 0) := Lib.hid fun i => rfl
  clear eE e1 e2 e3 e4 h0 ht hn u1 u2 u3 qt hs
  generalize unitsL l = U at *
  have qe := HS.out U.length (Nat.le_refl _)
  have k3 := mulbd (a := (U.length : Int)) (b := (U.length : Int)) (A := 180) (B := 180) (by omega) (by omega)
  have hN2 : (1 : Int) ≤ (U.length : Int) := by omega
  have k4 : 1 ≤ (U.length : Int) * (U.length : Int) := by have := Int.mul_le_mul hN2 hN2 (by omega) (by omega); omega
  have C3 := Lib.hid (fun W => f97_c (sprTo U U.length) ((U.length : Int) * (U.length : Int)) W (by omega) (by omega))
  simp only [fracV] at C3
  have w4 : IntKind.i64.wrap ((U.length : Int) * (U.length : Int)) = (U.length : Int) * (U.length : Int) := IntWalk.i64_in _ (by omega)
  generalize ratN (sprTo U U.length) ((U.length : Int) * (U.length : Int)) = rn at *
  generalize ratD (sprTo U U.length) ((U.length : Int) * (U.length : Int)) = rd at *
  generalize sprTo U = sU at *
  generalize sqTo2 U = qU at *
  clear qe k3 k4
  go_enter Try.func55, Try.ntmps55
  go_wp2_with fail
  generalize (w.alloc (.cells #[.int .i64 0, .int .i64 0] 63)) = w0 at *
  refine (C1.out _ hE0).mono ?_
  rintro e w1 ⟨rfl, hX1⟩
  have hE1 := hE0.trans' hX1
  go_wp2_with fail
  refine (C2.out _ hE1).mono ?_
  rintro e w2 ⟨aU, cU, rfl, hU, hX2⟩
  have hE2 := hE1.trans' hX2
  have hY2 := hX1.trans' hX2
  have HU := Lib.hid hU
  clear hU
  go_wp2_with fail
  go_loopw [6, 7] (fun x i wr => ∃ k : Nat, k ≤ U.length ∧ x = .int .i64 (sU k) ∧ i = .int .i64 k ∧ Ext w2 wr) (fun _ i _ => U.length - (intOf i).toNat)
  case atStart => exact ⟨0, Nat.zero_le _, by rw [Z0.out], rfl, Below.refl _ _⟩
  case round =>
    obtain ⟨k, hk, rfl, rfl, hX⟩ := hrel
    by_cases hlt : k < U.length
    · obtain ⟨bu, ou, rfl, hbu0, hcu0⟩ := HU.out k hlt
      rw [← gi_at] at hcu0
      have t1 := HP.out k hlt
      have t2 := HS.out k hk
      have S1 := Lib.hid (Hs.out k)
      have Q1 := Lib.hid (Hq.out k)
      have B1 := Lib.hid (HQ.out k hlt)
      have Zk := Lib.hid (Zq.out k)
      obtain ⟨x, hxx⟩ : ∃ x, gi U k = x := ⟨_, rfl⟩
      rw [hxx] at hcu0 t1 Q1
      clear hxx
      generalize qU k = qk at *
      generalize sU k = sk at *
      go_wp2_with fail
      go_loopw [6, 8] (fun v i wr => ∃ j : Nat, j ≤ k ∧ v = .int .i64 (sk + qk j) ∧ i = .int .i64 j ∧ Ext w2 wr) (fun _ i _ => k - (intOf i).toNat)
      case atStart => exact ⟨0, Nat.zero_le _, by rw [Zk.out]; simp, rfl, hX⟩
      case round =>
        obtain ⟨j, hj, rfl, rfl, hXj⟩ := hrel
        by_cases hlj : j < k
        · have hcu := (hXj.cell' hbu0).trans hcu0
          have hbu := Nat.lt_of_lt_of_le hbu0 hXj.size
          obtain ⟨bv, ov, ev, hbv, hcv⟩ := HU.out.ext hXj j (by omega)
          rw [← gi_at] at hcv
          cases ev
          have hjU : j < U.length := by omega
          have t3 := HP.out j hjU
          have Q2 := Lib.hid (Q1.out j)
          have t5 := B1.out j (by omega)
          generalize gi U j = y at *
          have D := Lib.hid (fun W => f76_c x y 2 W (by omega) (by omega) (.inr rfl))
          have pb := price2_bd t1 t3
          generalize priceV x y 2 = pv at *
          have w6 : IntKind.i64.wrap (sk + qk j + pv) = sk + qk j + pv := IntWalk.i64_in _ (by omega)
          have hjk : decide ((j : Int) < (k : Int)) = true := by simpa using hlj
          clear t1 t2 t3 t5 pb
          go_wp2_with fail
          refine wp_region_ext (by kernel_rfl) (by kernel_rfl) ?_
          repeat (go_big_quiet_step (fail))
          go_big_quiet_step ((go_at_call 76; exact quiet_same (D.out _)))
          repeat (go_big_quiet_step (fail))
          refine wpQuiet_nil ?_
          intro w7 hX7
          go_wp2_with fail
          go_roundw
          case rel => exact ⟨j + 1, by omega, by rw [Q2.out, Int.add_assoc], by go_num, hXj.trans' hX7⟩
          case measure => simp [intOf]; omega
        · obtain rfl : j = k := by omega
          go_wp2_with fail
          go_roundw
          case rel => exact ⟨j + 1, by omega, by rw [S1.out], by go_num, hXj⟩
          case measure => simp [intOf]; omega
    · obtain rfl : k = U.length := by omega
      go_wp2_with fail
      refine (C3.out _).mono ?_
      rintro e w3 ⟨rfl, hX3⟩
      have hE3 := (hE2.trans' hX).trans' hX3
      have hY3 := (hY2.trans' hX).trans' hX3
      have HB8 := HB0.out.ext hY3
      have g0 := HB8.cellv 0 (v := .int .i64 0) rfl
      have g1 := HB8.cellv 1 (v := .int .i64 0) rfl
      have gf := fun i => HB8.frozen i
      go_wp2_with fail
      refine bodyPost_ret (v := .tuple #[.agg #[.int .i64 rn, .int .i64 rd], .int .i64 0]) (by simp [results, Try.results55, go_sem, g0, g1]) rfl ⟨rfl, ?_⟩
      exact (hE3.setCell (Nat.le_refl _) _).setCell (Nat.le_refl _) _
end Go.Proofs.Ytfhgnmijigdlmaa
