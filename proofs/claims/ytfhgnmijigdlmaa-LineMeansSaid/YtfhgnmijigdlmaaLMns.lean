/- Mean and spread, walked. -/
import Derived.Test.YtfhgnmijigdlmaaT24
import Derived.Test.YtfhgnmijigdlmaaT17
namespace Go.Proofs.Ytfhgnmijigdlmaa
open Go.RowKit
attribute [local go_sem] GW.cell
theorem sum_shift1 (u : List Int) (d : Int) : (u.map (fun p => p + d)).sum = u.sum + d * u.length := by
  induction u with
  | nil => simp
  | cons x u ih =>
    simp only [List.map_cons, List.sum_cons, List.length_cons]
    rw [ih, show ((u.length + 1 : Nat) : Int) = (u.length : Int) + 1 by omega]
    generalize u.sum = A
    generalize (u.length : Int) = N
    grind
theorem sum_shift2 (u : List Int) (d : Int) : (u.map (fun p => (p + d) * (p + d))).sum = (u.map (fun p => p * p)).sum + 2 * d * u.sum + d * d * u.length := by
  induction u with
  | nil => simp
  | cons x u ih =>
    simp only [List.map_cons, List.sum_cons, List.length_cons]
    rw [ih, show ((u.length + 1 : Nat) : Int) = (u.length : Int) + 1 by omega]
    generalize u.sum = A
    generalize (u.map (fun p => p * p)).sum = B
    generalize (u.length : Int) = N
    grind
theorem mom_shift {l : List Atom} {d : Int} (h : shiftErr l d = 0) : m1L (shiftL l d) = m1L l + d * totalL l ∧ m2L (shiftL l d) = m2L l + 2 * d * m1L l + d * d * totalL l := by
  have h1 := (shiftErr_ok h).1
  have h2 := shift_valid h
  have hF := fine_load h1
  have hF2 := fine_load h2
  have hm : ∀ i, (hi : i < l.length) → 0 ≤ l[i].m := fun i hi => by have := hF.2 i hi; omega
  have hm2 : ∀ i, (hi : i < (shiftL l d).length) → 0 ≤ (shiftL l d)[i].m := fun i hi => by have := hF2.2 i hi; omega
  have e0 : (unitsL l).sum = m1L l := by unfold m1L; rw [← units_sum_all hm (fun p => p)]; simp
  have e1 : ((unitsL l).map (fun p => p * p)).sum = m2L l := by unfold m2L; rw [← units_sum_all hm (fun p => p * p)]
  constructor
  · unfold m1L
    rw [← units_sum_all hm2 (fun p => p), units_shift, List.map_map]
    show ((unitsL l).map (fun p => p + d)).sum = _
    rw [sum_shift1, e0, units_len hF]
    rfl
  · unfold m2L
    rw [← units_sum_all hm2 (fun p => p * p), units_shift, List.map_map]
    show ((unitsL l).map (fun p => (p + d) * (p + d))).sum = _
    rw [sum_shift2, e0, e1, units_len hF]
    rfl
theorem gcd_shift (m d t : Int) : Int.gcd (m + d * t) t = Int.gcd m t := by
  apply Nat.dvd_antisymm
  · apply Int.dvd_gcd
    · have h1 : ((Int.gcd (m + d * t) t : Nat) : Int) ∣ m + d * t := Int.gcd_dvd_left _ _
      have h2 : ((Int.gcd (m + d * t) t : Nat) : Int) ∣ t := Int.gcd_dvd_right _ _
      have h3 := Int.dvd_sub h1 (Int.dvd_mul_of_dvd_right (b := d) h2)
      rwa [show m + d * t - d * t = m by omega] at h3
    · exact Int.gcd_dvd_right _ _
  · apply Int.dvd_gcd
    · exact Int.dvd_add (Int.gcd_dvd_left _ _) (Int.dvd_mul_of_dvd_right (Int.gcd_dvd_right _ _))
    · exact Int.gcd_dvd_right _ _
theorem rat_shift {m t : Int} (d : Int) (ht : t ≠ 0) : ratN (m + d * t) t = ratN m t + d * ratD m t ∧ ratD (m + d * t) t = ratD m t := by
  have hg := gcd_pos (n := m) (d := t) ht
  obtain ⟨h1, h2⟩ := gcd_dvd' m t
  obtain ⟨h3, h4⟩ := gcd_dvd' (m + d * t) t
  have e2 : ratD (m + d * t) t = ratD m t := by unfold ratD; rw [gcd_shift]
  rw [gcd_shift] at h3
  refine ⟨?_, e2⟩
  have : ratN (m + d * t) t * (Int.gcd m t : Int) = (ratN m t + d * ratD m t) * (Int.gcd m t : Int) := by
    rw [h3, Int.add_mul, h1, Int.mul_assoc, h2]
  exact Int.eq_of_mul_eq_mul_right (by omega) this
theorem mean_shift {l : List Atom} {d : Int} (h : shiftErr l d = 0) (he : meanErr l = 0) :
    meanErr (shiftV l d) = 0 ∧ meanN (shiftV l d) = meanN l + d * meanD l ∧ meanD (shiftV l d) = meanD l ∧ sprN (shiftV l d) = sprN l ∧ sprD (shiftV l d) = sprD l := by
  have e : shiftV l d = shiftL l d := by unfold shiftV; rw [if_pos h]
  rw [e]
  obtain ⟨h1, h2⟩ := meanErr_ok he
  have e2 := meanErr_3 (shift_valid h) (by rw [total_shift]; omega)
  obtain ⟨a1, a2, a3, a4⟩ := mean_ok e2
  obtain ⟨b1, b2, b3, b4⟩ := mean_ok he
  obtain ⟨c1, c2⟩ := mom_shift h
  have c3 := total_shift l d
  obtain ⟨d1, d2⟩ := rat_shift (m := m1L l) d (show totalL l ≠ 0 by omega)
  have e3 : m2L (shiftL l d) * totalL (shiftL l d) - m1L (shiftL l d) * m1L (shiftL l d) = m2L l * totalL l - m1L l * m1L l := by
    rw [c1, c2, c3]
    generalize m1L l = A
    generalize m2L l = B
    generalize totalL l = T
    grind
  refine ⟨e2, ?_, ?_, ?_, ?_⟩
  · rw [a1, b1, b2, c1, c3, d1]
  · rw [a2, b2, c1, c3, d2]
  · rw [a3, b3, e3, c3]
  · rw [a4, b4, e3, c3]
theorem mean_bd (l : List Atom) : (-180000 ≤ meanN l ∧ meanN l ≤ 180000) ∧ (-180 ≤ meanD l ∧ meanD l ≤ 180) := by
  by_cases he : meanErr l = 0
  · obtain ⟨h1, h2⟩ := meanErr_ok he
    obtain ⟨b1, b2, -, -⟩ := mean_ok he
    have q := mom1_bd h1 l.length (Nat.le_refl _)
    have h6 := (listErr_ok h1).1
    have ht := load_total h1
    rw [b1, b2]
    refine ⟨tdiv_bd (M := 180000) ?_, tdiv_bd (M := 180) (by omega)⟩
    unfold m1L
    omega
  · obtain ⟨b1, b2, -, -⟩ := mean_bad he
    rw [b1, b2]; omega
theorem shiftV_len2 (l : List Atom) (d : Int) (h : l.length ≤ 100) : (shiftV l d).length ≤ 100 := by
  unfold shiftV; split
  · simpa [shiftL] using h
  · simp
theorem shift_small2 {l : List Atom} {d : Int} (h : shiftErr l d = 0) (he : meanErr l = 0) : -2000 ≤ d ∧ d ≤ 2000 := by
  have ht := (meanErr_ok he).2
  have h0 : l ≠ [] := fun e => by subst e; exact absurd ht (by decide)
  obtain ⟨h1, h2⟩ := shiftErr_ok h
  obtain ⟨x, t, rfl⟩ := List.exists_cons_of_ne_nil h0
  have a1 := ((valLoad_in h1).2.1 x List.mem_cons_self).1
  unfold shiftOk at h2
  rw [List.all_eq_true] at h2
  have a2 := withinB_iff.1 (h2 x List.mem_cons_self)
  omega
theorem und63 : Try.prog.underlying 63 = some (.struct (Try.prog.fieldsOf 63)) := by kernel_rfl
theorem stood63 : Try.prog.stoodInHeld 63 = false := by kernel_rfl
theorem guard63 : Try.prog.eqGuardType Try.prog.depth 63 = false := by kernel_rfl
theorem eql_rat (w : World) (a b c d : Int) : (binOp .eql 63 (.agg #[.int .i64 a, .int .i64 b]) (.agg #[.int .i64 c, .int .i64 d])).run Try.prog w = .ok (.bool (decide (a = c) && decide (b = d))) w := by
  simp only [run_eql_struct, run_equalIn_agg _ _ _ _ _ und63 stood63]
  have hf : (Try.prog.fieldsOf 63).toList = (match Try.prog.underlying 63 with | some (.struct fs) => fs.toList | _ => []) := by kernel_rfl
  rw [hf, Try.underlying63]
  simp [Op.eqFields, go_sem]
  by_cases h1 : a = c <;> by_cases h2 : b = d <;> simp [h1, h2]
theorem neq_rat (w : World) (a b c d : Int) : (binOp .neq 63 (.agg #[.int .i64 a, .int .i64 b]) (.agg #[.int .i64 c, .int .i64 d])).run Try.prog w = .ok (.bool (!(decide (a = c) && decide (b = d)))) w := by
  simp only [run_neq_struct, run_equalIn_agg _ _ _ _ _ und63 stood63]
  have hf : (Try.prog.fieldsOf 63).toList = (match Try.prog.underlying 63 with | some (.struct fs) => fs.toList | _ => []) := by kernel_rfl
  rw [hf, Try.underlying63]
  simp [Op.eqFields, go_sem]
  by_cases h1 : a = c <;> by_cases h2 : b = d <;> simp [h1, h2]
attribute [local go_sem] guard63 eql_rat neq_rat
set_option maxRecDepth 20000 in
set_option maxHeartbeats 16000000 in
theorem means_walk (w : World) (a1 : Option Addr) (n1 c1 : Nat) (l1 : List Atom) (hl1 : Atoms w a1 l1) (hn1 : l1.length = n1) (d : Int) :
    Calls Try.prog 15 #[.slice a1 n1 c1, .int .i64 d] w fun e w' => e = .returned (.bool true) ∧ Below w.heap.size w w' := by
  cases hL : longB n1 0
  case true =>
    clear hn1
    go_enter Try.func15, Try.ntmps15
    go_wp2_with fail
    refine (f18_c _ _ _ _ _ _ _).mono ?_
    rintro e w' ⟨rfl, rfl⟩
    rw [hL]
    go_wp2_with fail
    refine (f19_c _).mono ?_
    rintro e w9 ⟨rfl, hE9⟩
    go_wp2_with fail
    go_ret
    exact ⟨rfl, hE9⟩
  obtain ⟨b1, b2⟩ := longB_no hL
  have hE0 : Ext w w := Below.refl _ _
  have hsl := shiftV_len2 l1 d (by omega)
  have C52 := fun W (h : Ext w W) => f52_c a1 n1 c1 l1 W (hl1.ext h) hn1 (by omega)
  have C53 := fun W (h : Ext w W) => f53_c a1 n1 c1 l1 W (hl1.ext h) hn1 (by omega)
  have C54 := fun W (h : Ext w W) => f54_c a1 n1 c1 l1 W (hl1.ext h) hn1 (by omega)
  have C55 := fun W (h : Ext w W) => f55_c a1 n1 c1 l1 W (hl1.ext h) hn1 (by omega)
  have C35 := Lib.hid (fun W (h : Ext w W) => f35_c a1 n1 c1 l1 d W (hl1.ext h) hn1 (by omega))
  have C56 := fun (a : Option Addr) (c : Nat) W (h : Atoms W a (shiftV l1 d)) => f52_c a (shiftV l1 d).length c (shiftV l1 d) W h rfl (by omega)
  have C57 := fun (a : Option Addr) (c : Nat) W (h : Atoms W a (shiftV l1 d)) => f54_c a (shiftV l1 d).length c (shiftV l1 d) W h rfl (by omega)
  obtain ⟨mb1, mb2⟩ := mean_bd l1
  clear hn1
  by_cases he : meanErr l1 = 0
  case neg =>
    have hb : (meanErr l1 != 0) = true := by simp [he]
    have C52 := Lib.hid C52
    have C53 := Lib.hid C53
    have C54 := Lib.hid C54
    have C55 := Lib.hid C55
    clear he C56 C57 hsl
    generalize shiftErr l1 d = E2 at *
    generalize shiftV l1 d = SV at *
    generalize meanErr l1 = E at *
    generalize meanN l1 = N at *
    generalize meanD l1 = Dn at *
    generalize sprN l1 = P at *
    generalize sprD l1 = Q at *
    go_enter Try.func15, Try.ntmps15
    go_wp2_with fail
    refine (f18_c _ _ _ _ _ _ _).mono ?_
    rintro e w' ⟨rfl, rfl⟩
    rw [hL]
    go_wp2_with fail
    refine (C52.out _ hE0).mono ?_
    rintro e x1 ⟨rfl, hX1⟩
    have hF1 := hE0.trans' hX1
    have HB1 := Lib.hid (BlkC.new x1 #[.int .i64 N, .int .i64 Dn] 63)
    have hE1 := hF1.trans' (ext_alloc x1 (.cells #[.int .i64 N, .int .i64 Dn] 63))
    have hY1 := hX1.trans' (ext_alloc x1 (.cells #[.int .i64 N, .int .i64 Dn] 63))
    go_wp2_with fail
    generalize (x1.alloc (.cells #[.int .i64 N, .int .i64 Dn] 63)) = w1 at *
    generalize x1.heap.size = B1 at *
    refine (C53.out _ hE1).mono ?_
    rintro e x2 ⟨rfl, hX2⟩
    have hF2 := hE1.trans' hX2
    have HB2 := Lib.hid (BlkC.new x2 #[.int .i64 N, .int .i64 Dn] 63)
    have hE2 := hF2.trans' (ext_alloc x2 (.cells #[.int .i64 N, .int .i64 Dn] 63))
    have hY2 := hX2.trans' (ext_alloc x2 (.cells #[.int .i64 N, .int .i64 Dn] 63))
    go_wp2_with fail
    generalize (x2.alloc (.cells #[.int .i64 N, .int .i64 Dn] 63)) = w2 at *
    generalize x2.heap.size = B2 at *
    refine (C54.out _ hE2).mono ?_
    rintro e x3 ⟨rfl, hX3⟩
    have hF3 := hE2.trans' hX3
    have HB3 := Lib.hid (BlkC.new x3 #[.int .i64 P, .int .i64 Q] 63)
    have hE3 := hF3.trans' (ext_alloc x3 (.cells #[.int .i64 P, .int .i64 Q] 63))
    have hY3 := hX3.trans' (ext_alloc x3 (.cells #[.int .i64 P, .int .i64 Q] 63))
    go_wp2_with fail
    generalize (x3.alloc (.cells #[.int .i64 P, .int .i64 Q] 63)) = w3 at *
    generalize x3.heap.size = B3 at *
    refine (C55.out _ hE3).mono ?_
    rintro e x4 ⟨rfl, hX4⟩
    have hF4 := hE3.trans' hX4
    have HB4 := Lib.hid (BlkC.new x4 #[.int .i64 P, .int .i64 Q] 63)
    have hE4 := hF4.trans' (ext_alloc x4 (.cells #[.int .i64 P, .int .i64 Q] 63))
    have hY4 := hX4.trans' (ext_alloc x4 (.cells #[.int .i64 P, .int .i64 Q] 63))
    have hz14 := (hY2.trans' hY3).trans' hY4
    have hz24 := hY3.trans' hY4
    have hz34 := hY4
    have g10 := (HB1.out.ext hz14).cellv 0 (v := .int .i64 N) rfl
    have g11 := (HB1.out.ext hz14).cellv 1 (v := .int .i64 Dn) rfl
    have g20 := (HB2.out.ext hz24).cellv 0 (v := .int .i64 N) rfl
    have g21 := (HB2.out.ext hz24).cellv 1 (v := .int .i64 Dn) rfl
    have g30 := (HB3.out.ext hz34).cellv 0 (v := .int .i64 P) rfl
    have g31 := (HB3.out.ext hz34).cellv 1 (v := .int .i64 Q) rfl
    have g40 := HB4.out.cellv 0 (v := .int .i64 P) rfl
    have g41 := HB4.out.cellv 1 (v := .int .i64 Q) rfl
    go_wp2_with fail
    generalize (x4.alloc (.cells #[.int .i64 P, .int .i64 Q] 63)) = w4 at *
    generalize x4.heap.size = B4 at *
    refine (C35.out _ hE4).mono ?_
    rintro e w5 hR5
    obtain ⟨aS, cS, rfl, hS5, hX5⟩ := hR5.open_
    clear hR5
    have HS5 := Lib.hid hS5
    clear hS5
    have hE5 := hE4.trans' hX5
    go_wp2_with fail
    refine (f19_c _).mono ?_
    rintro e w9 ⟨rfl, hE9⟩
    go_wp2_with fail
    go_ret
    exact ⟨rfl, hE5.trans' hE9⟩
  rw [he] at C52 C53 C54 C55
  have C52 := Lib.hid C52
  have C53 := Lib.hid C53
  have C54 := Lib.hid C54
  have C55 := Lib.hid C55
  by_cases hs : shiftErr l1 d = 0
  case neg =>
    have hb : (shiftErr l1 d != 0) = true := by simp [hs]
    clear he hs C56 C57 hsl
    generalize shiftErr l1 d = E2 at *
    generalize shiftV l1 d = SV at *
    generalize meanN l1 = N at *
    generalize meanD l1 = Dn at *
    generalize sprN l1 = P at *
    generalize sprD l1 = Q at *
    go_enter Try.func15, Try.ntmps15
    go_wp2_with fail
    refine (f18_c _ _ _ _ _ _ _).mono ?_
    rintro e w' ⟨rfl, rfl⟩
    rw [hL]
    go_wp2_with fail
    refine (C52.out _ hE0).mono ?_
    rintro e x1 ⟨rfl, hX1⟩
    have hF1 := hE0.trans' hX1
    have HB1 := Lib.hid (BlkC.new x1 #[.int .i64 N, .int .i64 Dn] 63)
    have hE1 := hF1.trans' (ext_alloc x1 (.cells #[.int .i64 N, .int .i64 Dn] 63))
    have hY1 := hX1.trans' (ext_alloc x1 (.cells #[.int .i64 N, .int .i64 Dn] 63))
    go_wp2_with fail
    generalize (x1.alloc (.cells #[.int .i64 N, .int .i64 Dn] 63)) = w1 at *
    generalize x1.heap.size = B1 at *
    refine (C53.out _ hE1).mono ?_
    rintro e x2 ⟨rfl, hX2⟩
    have hF2 := hE1.trans' hX2
    have HB2 := Lib.hid (BlkC.new x2 #[.int .i64 N, .int .i64 Dn] 63)
    have hE2 := hF2.trans' (ext_alloc x2 (.cells #[.int .i64 N, .int .i64 Dn] 63))
    have hY2 := hX2.trans' (ext_alloc x2 (.cells #[.int .i64 N, .int .i64 Dn] 63))
    go_wp2_with fail
    generalize (x2.alloc (.cells #[.int .i64 N, .int .i64 Dn] 63)) = w2 at *
    generalize x2.heap.size = B2 at *
    refine (C54.out _ hE2).mono ?_
    rintro e x3 ⟨rfl, hX3⟩
    have hF3 := hE2.trans' hX3
    have HB3 := Lib.hid (BlkC.new x3 #[.int .i64 P, .int .i64 Q] 63)
    have hE3 := hF3.trans' (ext_alloc x3 (.cells #[.int .i64 P, .int .i64 Q] 63))
    have hY3 := hX3.trans' (ext_alloc x3 (.cells #[.int .i64 P, .int .i64 Q] 63))
    go_wp2_with fail
    generalize (x3.alloc (.cells #[.int .i64 P, .int .i64 Q] 63)) = w3 at *
    generalize x3.heap.size = B3 at *
    refine (C55.out _ hE3).mono ?_
    rintro e x4 ⟨rfl, hX4⟩
    have hF4 := hE3.trans' hX4
    have HB4 := Lib.hid (BlkC.new x4 #[.int .i64 P, .int .i64 Q] 63)
    have hE4 := hF4.trans' (ext_alloc x4 (.cells #[.int .i64 P, .int .i64 Q] 63))
    have hY4 := hX4.trans' (ext_alloc x4 (.cells #[.int .i64 P, .int .i64 Q] 63))
    have hz14 := (hY2.trans' hY3).trans' hY4
    have hz24 := hY3.trans' hY4
    have hz34 := hY4
    have g10 := (HB1.out.ext hz14).cellv 0 (v := .int .i64 N) rfl
    have g11 := (HB1.out.ext hz14).cellv 1 (v := .int .i64 Dn) rfl
    have g20 := (HB2.out.ext hz24).cellv 0 (v := .int .i64 N) rfl
    have g21 := (HB2.out.ext hz24).cellv 1 (v := .int .i64 Dn) rfl
    have g30 := (HB3.out.ext hz34).cellv 0 (v := .int .i64 P) rfl
    have g31 := (HB3.out.ext hz34).cellv 1 (v := .int .i64 Q) rfl
    have g40 := HB4.out.cellv 0 (v := .int .i64 P) rfl
    have g41 := HB4.out.cellv 1 (v := .int .i64 Q) rfl
    go_wp2_with fail
    generalize (x4.alloc (.cells #[.int .i64 P, .int .i64 Q] 63)) = w4 at *
    generalize x4.heap.size = B4 at *
    refine (C35.out _ hE4).mono ?_
    rintro e w5 hR5
    obtain ⟨aS, cS, rfl, hS5, hX5⟩ := hR5.open_
    clear hR5
    have HS5 := Lib.hid hS5
    clear hS5
    have hE5 := hE4.trans' hX5
    go_wp2_with fail
    refine (f19_c _).mono ?_
    rintro e w9 ⟨rfl, hE9⟩
    go_wp2_with fail
    go_ret
    exact ⟨rfl, hE5.trans' hE9⟩
  have hd := shift_small2 hs he
  obtain ⟨s1, s2, s3, s4, s5⟩ := mean_shift hs he
  simp only [s1, s2, s3] at C56
  simp only [s1, s4, s5] at C57
  have C56 := Lib.hid C56
  have C57 := Lib.hid C57
  have C35 := Lib.hid (by have h := C35.out; rw [hs] at h; exact h)
  clear s1 s2 s3 s4 s5 hs he hsl
  generalize shiftV l1 d = SV at *
  generalize meanN l1 = N at *
  generalize meanD l1 = Dn at *
  generalize sprN l1 = P at *
  generalize sprD l1 = Q at *
  have pm := mulbd (a := d) (b := Dn) (A := 2000) (B := 180) (by omega) (by omega)
  have x1 : IntKind.i64.wrap (d * Dn) = d * Dn := IntWalk.i64_in _ (by omega)
  have x2 : IntKind.i64.wrap (N + d * Dn) = N + d * Dn := IntWalk.i64_in _ (by omega)
  clear pm
  obtain ⟨M, hM⟩ : ∃ M, N + d * Dn = M := ⟨_, rfl⟩
  rw [hM] at x2 C56
  have HM := Lib.hid hM
  clear hM
  go_enter Try.func15, Try.ntmps15
  go_wp2_with fail
  refine (f18_c _ _ _ _ _ _ _).mono ?_
  rintro e w' ⟨rfl, rfl⟩
  rw [hL]
  go_wp2_with fail
  refine (C52.out _ hE0).mono ?_
  rintro e x1 ⟨rfl, hX1⟩
  have hF1 := hE0.trans' hX1
  have HB1 := Lib.hid (BlkC.new x1 #[.int .i64 N, .int .i64 Dn] 63)
  have hE1 := hF1.trans' (ext_alloc x1 (.cells #[.int .i64 N, .int .i64 Dn] 63))
  have hY1 := hX1.trans' (ext_alloc x1 (.cells #[.int .i64 N, .int .i64 Dn] 63))
  go_wp2_with fail
  generalize (x1.alloc (.cells #[.int .i64 N, .int .i64 Dn] 63)) = w1 at *
  generalize x1.heap.size = B1 at *
  refine (C53.out _ hE1).mono ?_
  rintro e x2 ⟨rfl, hX2⟩
  have hF2 := hE1.trans' hX2
  have HB2 := Lib.hid (BlkC.new x2 #[.int .i64 N, .int .i64 Dn] 63)
  have hE2 := hF2.trans' (ext_alloc x2 (.cells #[.int .i64 N, .int .i64 Dn] 63))
  have hY2 := hX2.trans' (ext_alloc x2 (.cells #[.int .i64 N, .int .i64 Dn] 63))
  go_wp2_with fail
  generalize (x2.alloc (.cells #[.int .i64 N, .int .i64 Dn] 63)) = w2 at *
  generalize x2.heap.size = B2 at *
  refine (C54.out _ hE2).mono ?_
  rintro e x3 ⟨rfl, hX3⟩
  have hF3 := hE2.trans' hX3
  have HB3 := Lib.hid (BlkC.new x3 #[.int .i64 P, .int .i64 Q] 63)
  have hE3 := hF3.trans' (ext_alloc x3 (.cells #[.int .i64 P, .int .i64 Q] 63))
  have hY3 := hX3.trans' (ext_alloc x3 (.cells #[.int .i64 P, .int .i64 Q] 63))
  go_wp2_with fail
  generalize (x3.alloc (.cells #[.int .i64 P, .int .i64 Q] 63)) = w3 at *
  generalize x3.heap.size = B3 at *
  refine (C55.out _ hE3).mono ?_
  rintro e x4 ⟨rfl, hX4⟩
  have hF4 := hE3.trans' hX4
  have HB4 := Lib.hid (BlkC.new x4 #[.int .i64 P, .int .i64 Q] 63)
  have hE4 := hF4.trans' (ext_alloc x4 (.cells #[.int .i64 P, .int .i64 Q] 63))
  have hY4 := hX4.trans' (ext_alloc x4 (.cells #[.int .i64 P, .int .i64 Q] 63))
  have hz14 := (hY2.trans' hY3).trans' hY4
  have hz24 := hY3.trans' hY4
  have hz34 := hY4
  have g10 := (HB1.out.ext hz14).cellv 0 (v := .int .i64 N) rfl
  have g11 := (HB1.out.ext hz14).cellv 1 (v := .int .i64 Dn) rfl
  have g20 := (HB2.out.ext hz24).cellv 0 (v := .int .i64 N) rfl
  have g21 := (HB2.out.ext hz24).cellv 1 (v := .int .i64 Dn) rfl
  have g30 := (HB3.out.ext hz34).cellv 0 (v := .int .i64 P) rfl
  have g31 := (HB3.out.ext hz34).cellv 1 (v := .int .i64 Q) rfl
  have g40 := HB4.out.cellv 0 (v := .int .i64 P) rfl
  have g41 := HB4.out.cellv 1 (v := .int .i64 Q) rfl
  go_wp2_with fail
  generalize (x4.alloc (.cells #[.int .i64 P, .int .i64 Q] 63)) = w4 at *
  generalize x4.heap.size = B4 at *
  refine (C35.out _ hE4).mono ?_
  rintro e w5 hR5
  obtain ⟨aS, cS, rfl, hS5, hX5⟩ := hR5.open_
  clear hR5
  have HS5 := Lib.hid hS5
  clear hS5
  have hE5 := hE4.trans' hX5
  go_wp2_with fail
  refine (C56.out _ _ _ HS5.out).mono ?_
  rintro e x6 ⟨rfl, hX6⟩
  have HB6 := Lib.hid (BlkC.new x6 #[.int .i64 M, .int .i64 Dn] 63)
  have hY6 := hX6.trans' (ext_alloc x6 (.cells #[.int .i64 M, .int .i64 Dn] 63))
  have hE6 := hE5.trans' hY6
  go_wp2_with fail
  generalize (x6.alloc (.cells #[.int .i64 M, .int .i64 Dn] 63)) = w6 at *
  generalize x6.heap.size = B6 at *
  refine (C57.out _ _ _ (HS5.out.ext hY6)).mono ?_
  rintro e x7 ⟨rfl, hX7⟩
  have HB7 := Lib.hid (BlkC.new x7 #[.int .i64 P, .int .i64 Q] 63)
  have hY7 := hX7.trans' (ext_alloc x7 (.cells #[.int .i64 P, .int .i64 Q] 63))
  have hE7 := hE6.trans' hY7
  have hm := HM.out
  have hx57 := (hX5.trans' hY6).trans' hY7
  have hx17 := hz14.trans' hx57
  have hx37 := hz34.trans' hx57
  have g10 := (HB1.out.ext hx17).cellv 0 (v := .int .i64 N) rfl
  have g11 := (HB1.out.ext hx17).cellv 1 (v := .int .i64 Dn) rfl
  have g30 := (HB3.out.ext hx37).cellv 0 (v := .int .i64 P) rfl
  have g31 := (HB3.out.ext hx37).cellv 1 (v := .int .i64 Q) rfl
  have g60 := (HB6.out.ext hY7).cellv 0 (v := .int .i64 M) rfl
  have g61 := (HB6.out.ext hY7).cellv 1 (v := .int .i64 Dn) rfl
  have g70 := HB7.out.cellv 0 (v := .int .i64 P) rfl
  have g71 := HB7.out.cellv 1 (v := .int .i64 Q) rfl
  go_wp2_with fail
  generalize (x7.alloc (.cells #[.int .i64 P, .int .i64 Q] 63)) = w7 at *
  generalize x7.heap.size = B7 at *
  refine (f19_c _).mono ?_
  rintro e w9 ⟨rfl, hE9⟩
  go_wp2_with fail
  go_ret
  exact ⟨rfl, hE7.trans' hE9⟩

end Go.Proofs.Ytfhgnmijigdlmaa