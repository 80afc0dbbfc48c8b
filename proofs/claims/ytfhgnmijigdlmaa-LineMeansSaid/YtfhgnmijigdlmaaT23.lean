/- Fractions and moments. -/
import Derived.OwnWalk
import Derived.Test.YtfhgnmijigdlmaaT20
namespace Go.Proofs.Ytfhgnmijigdlmaa
open Go.RowKit
attribute [local go_sem] GW.cell
def fracV (n d : Int) : Value := .agg #[.int .i64 (ratN n d), .int .i64 (ratD n d)]
theorem gcd_abs (n d : Int) : Int.gcd (n.natAbs : Int) d = Int.gcd n d := by
  rw [Int.gcd, Int.gcd]; congr 1
set_option maxHeartbeats 4000000 in
theorem f96_c (n d : Int) (w : World) (hn : -1000000000000000 ≤ n ∧ n ≤ 1000000000000000) (hd : 1 ≤ d ∧ d ≤ 1000000000000000) :
    Calls Try.prog 96 #[.int .i64 n, .int .i64 d] w fun e w' => e = .returned (fracV n d) ∧ Ext w w' := by
  have hp := gcd_pos (n := n) (d := d) (by omega)
  have wn : IntKind.i64.wrap (-n) = -n := IntWalk.i64_in _ (by omega)
  have Hg0 := Lib.hid (gcd_abs n d)
  have HB0 := Lib.hid (BlkC.new w #[.int .i64 0, .int .i64 0] 63)
  have hE0 := ext_alloc w (.cells #[.int .i64 0, .int .i64 0] 63)
  go_enter Try.func96, Try.ntmps96
  go_wp2_with fail
  generalize (w.alloc (.cells #[.int .i64 0, .int .i64 0] 63)) = w0 at *
  go_loopw [5, 6] (fun a b  wr => ∃ x y : Int, a = .int .i64 x ∧ b = .int .i64 y ∧ 0 ≤ x ∧ x ≤ 1000000000000000 ∧ 0 ≤ y ∧ y ≤ 1000000000000000 ∧ Ext w0 wr ∧ Hid (Int.gcd x y = Int.gcd n d)) (fun _ b  _ => (intOf b).natAbs)
  case atStart => exact ⟨(n.natAbs : Int), d, by first | rfl | (refine congrArg (Value.int .i64) ?_; first | omega | (split <;> omega)), rfl, by omega, by omega, by omega, hd.2, Below.refl _ _, Hg0⟩
  case round =>
    obtain ⟨x, y, rfl, rfl, hx, hx1, hy, hy1, hE, H⟩ := hrel
    by_cases h0 : y = 0
    · have hb : (y != 0) = false := by simp [h0]
      have Hx : Hid ((Int.gcd n d : Int) = x) := Lib.hid (by rw [← H.out, h0, Int.gcd_zero_right]; omega)
      have hx1 : 1 ≤ x := by rw [Hx.out] at hp; exact hp
      clear h0 hp
      have b1 := tdiv_bd (a := n) (b := x) (M := 1000000000000000) (by omega)
      have b2 := tdiv_bd (a := d) (b := x) (M := 1000000000000000) (by omega)
      have w1 : IntKind.i64.wrap (n.tdiv x) = n.tdiv x := IntWalk.i64_in _ (by omega)
      have w2 : IntKind.i64.wrap (d.tdiv x) = d.tdiv x := IntWalk.i64_in _ (by omega)
      have h0 : x ≠ 0 := by omega
      by_cases hneg : n < 0
      · go_wp2_with fail
        refine wp_region_ext_tail 7 (by kernel_rfl) (by kernel_rfl) ?_
        simp only [List.take_succ_cons, List.take_zero, List.drop_succ_cons, List.drop_zero]
        repeat (go_big_quiet_step (fail))
        refine wpQuiet_nil ?_
        intro w3 hE3
        have HB8 := HB0.out.ext (hE.trans' hE3)
        have g0 := HB8.cellv 0 (v := .int .i64 0) rfl
        have g1 := HB8.cellv 1 (v := .int .i64 0) rfl
        have gf := fun i => HB8.frozen i
        go_wp2_with fail
        refine bodyPost_ret (v := .agg #[.int .i64 (n.tdiv x), .int .i64 (d.tdiv x)]) (by simp [results, Try.results96, go_sem, g0, g1]) rfl ⟨by unfold fracV ratN ratD; rw [Hx.out], ?_⟩
        exact (((hE0.trans' hE).trans' hE3).setCell (Nat.le_refl _) _).setCell (Nat.le_refl _) _
      · go_wp2_with fail
        refine wp_region_ext_tail 7 (by kernel_rfl) (by kernel_rfl) ?_
        simp only [List.take_succ_cons, List.take_zero, List.drop_succ_cons, List.drop_zero]
        repeat (go_big_quiet_step (fail))
        refine wpQuiet_nil ?_
        intro w3 hE3
        have HB8 := HB0.out.ext (hE.trans' hE3)
        have g0 := HB8.cellv 0 (v := .int .i64 0) rfl
        have g1 := HB8.cellv 1 (v := .int .i64 0) rfl
        have gf := fun i => HB8.frozen i
        go_wp2_with fail
        refine bodyPost_ret (v := .agg #[.int .i64 (n.tdiv x), .int .i64 (d.tdiv x)]) (by simp [results, Try.results96, go_sem, g0, g1]) rfl ⟨by unfold fracV ratN ratD; rw [Hx.out], ?_⟩
        exact (((hE0.trans' hE).trans' hE3).setCell (Nat.le_refl _) _).setCell (Nat.le_refl _) _
    · have hb : (y != 0) = true := by simp [h0]
      have hm4 : 0 ≤ x % y := Int.emod_nonneg _ h0
      have hm2 : x % y < y := Int.emod_lt_of_pos _ (by omega)
      have hg : Int.gcd y (x % y) = Int.gcd x y := by rw [← Int.tmod_eq_emod_of_nonneg hx]; exact gcd_step x y
      have Hg := Lib.hid hg
      clear hg
      go_wp2_with fail
      refine wp_region_ext (by kernel_rfl) (by kernel_rfl) ?_
      repeat (go_big_quiet_step (fail))
      refine wpQuiet_nil ?_
      intro w4 hE4
      go_wp2_with fail
      go_roundw
      case rel => exact ⟨y, x % y, rfl, rfl, hy, hy1, hm4, by omega, hE.trans' hE4, Lib.hid (Hg.out.trans H.out)⟩
      case measure => simp [intOf]; omega
set_option maxHeartbeats 4000000 in
theorem f97_c (n d : Int) (w : World) (hn : -1000000000000000 ≤ n ∧ n ≤ 1000000000000000) (hd : 1 ≤ d ∧ d ≤ 1000000000000000) :
    Calls Try.prog 97 #[.int .i64 n, .int .i64 d] w fun e w' => e = .returned (fracV n d) ∧ Ext w w' := by
  have hp := gcd_pos (n := n) (d := d) (by omega)
  have wn : IntKind.i64.wrap (-n) = -n := IntWalk.i64_in _ (by omega)
  have Hg0 := Lib.hid (gcd_abs n d)
  have HB0 := Lib.hid (BlkC.new w #[.int .i64 0, .int .i64 0] 63)
  have hE0 := ext_alloc w (.cells #[.int .i64 0, .int .i64 0] 63)
  go_enter Try.func97, Try.ntmps97
  go_wp2_with fail
  generalize (w.alloc (.cells #[.int .i64 0, .int .i64 0] 63)) = w0 at *
  go_loopw [5, 6, 7] (fun a b _ wr => ∃ x y : Int, a = .int .i64 x ∧ b = .int .i64 y ∧ 0 ≤ x ∧ x ≤ 1000000000000000 ∧ 0 ≤ y ∧ y ≤ 1000000000000000 ∧ Ext w0 wr ∧ Hid (Int.gcd x y = Int.gcd n d)) (fun _ b _ _ => (intOf b).natAbs)
  case atStart => exact ⟨(n.natAbs : Int), d, by first | rfl | (refine congrArg (Value.int .i64) ?_; first | omega | (split <;> omega)), rfl, by omega, by omega, by omega, hd.2, Below.refl _ _, Hg0⟩
  case round =>
    obtain ⟨x, y, rfl, rfl, hx, hx1, hy, hy1, hE, H⟩ := hrel
    by_cases h0 : y = 0
    · have hb : decide (0 < y) = false := by simp; omega
      have Hx : Hid ((Int.gcd n d : Int) = x) := Lib.hid (by rw [← H.out, h0, Int.gcd_zero_right]; omega)
      have hx1 : 1 ≤ x := by rw [Hx.out] at hp; exact hp
      clear h0 hp
      have b1 := tdiv_bd (a := n) (b := x) (M := 1000000000000000) (by omega)
      have b2 := tdiv_bd (a := d) (b := x) (M := 1000000000000000) (by omega)
      have w1 : IntKind.i64.wrap (n.tdiv x) = n.tdiv x := IntWalk.i64_in _ (by omega)
      have w2 : IntKind.i64.wrap (d.tdiv x) = d.tdiv x := IntWalk.i64_in _ (by omega)
      have h0 : x ≠ 0 := by omega
      by_cases hneg : n < 0
      · go_wp2_with fail
        refine wp_region_ext_tail 7 (by kernel_rfl) (by kernel_rfl) ?_
        simp only [List.take_succ_cons, List.take_zero, List.drop_succ_cons, List.drop_zero]
        repeat (go_big_quiet_step (fail))
        refine wpQuiet_nil ?_
        intro w3 hE3
        have HB8 := HB0.out.ext (hE.trans' hE3)
        have g0 := HB8.cellv 0 (v := .int .i64 0) rfl
        have g1 := HB8.cellv 1 (v := .int .i64 0) rfl
        have gf := fun i => HB8.frozen i
        go_wp2_with fail
        refine bodyPost_ret (v := .agg #[.int .i64 (n.tdiv x), .int .i64 (d.tdiv x)]) (by simp [results, Try.results97, go_sem, g0, g1]) rfl ⟨by unfold fracV ratN ratD; rw [Hx.out], ?_⟩
        exact (((hE0.trans' hE).trans' hE3).setCell (Nat.le_refl _) _).setCell (Nat.le_refl _) _
      · go_wp2_with fail
        refine wp_region_ext_tail 7 (by kernel_rfl) (by kernel_rfl) ?_
        simp only [List.take_succ_cons, List.take_zero, List.drop_succ_cons, List.drop_zero]
        repeat (go_big_quiet_step (fail))
        refine wpQuiet_nil ?_
        intro w3 hE3
        have HB8 := HB0.out.ext (hE.trans' hE3)
        have g0 := HB8.cellv 0 (v := .int .i64 0) rfl
        have g1 := HB8.cellv 1 (v := .int .i64 0) rfl
        have gf := fun i => HB8.frozen i
        go_wp2_with fail
        refine bodyPost_ret (v := .agg #[.int .i64 (n.tdiv x), .int .i64 (d.tdiv x)]) (by simp [results, Try.results97, go_sem, g0, g1]) rfl ⟨by unfold fracV ratN ratD; rw [Hx.out], ?_⟩
        exact (((hE0.trans' hE).trans' hE3).setCell (Nat.le_refl _) _).setCell (Nat.le_refl _) _
    · have hb : decide (0 < y) = true := by simp; omega
      have hm4 : 0 ≤ x % y := Int.emod_nonneg _ h0
      have hm2 : x % y < y := Int.emod_lt_of_pos _ (by omega)
      have hg : Int.gcd y (x % y) = Int.gcd x y := by rw [← Int.tmod_eq_emod_of_nonneg hx]; exact gcd_step x y
      have Hg := Lib.hid hg
      clear hg
      go_wp2_with fail
      go_roundw
      case rel => exact ⟨y, x % y, rfl, rfl, hy, hy1, hm4, by omega, hE, Lib.hid (Hg.out.trans H.out)⟩
      case measure => simp [intOf]; omega
theorem mom_succ (f : Int → Int) (l : List Atom) {k : Nat} (hk : k < l.length) : momTo f l (k + 1) = momTo f l k + f l[k].p * l[k].m := by
  show _ + f (atK l k).p * (atK l k).m = _; rw [atK_at hk]; rfl
theorem loadk_in {l : List Atom} (h : valLoad l = 0) {k : Nat} (hk : k < l.length) : (-1000 ≤ l[k].p ∧ l[k].p ≤ 1000) ∧ (1 ≤ l[k].m ∧ l[k].m ≤ 30) := by
  have := goodAt_spec hk (isListB_at (listErr_ok h).2 hk); omega
theorem mom1_bd {l : List Atom} (h : valLoad l = 0) : ∀ k, k ≤ l.length → -(k * 30000) ≤ momTo (fun p => p) l k ∧ momTo (fun p => p) l k ≤ k * 30000
  | 0, _ => by simp [momTo, sumR]
  | k + 1, hk => by
    have ih := mom1_bd h k (by omega)
    have h1 := loadk_in h (show k < l.length by omega)
    have := mulbd (a := l[k].p) (b := l[k].m) (A := 1000) (B := 30) (by omega) (by omega)
    rw [mom_succ _ l hk]
    omega
theorem sq_bd {p : Int} (h : -1000 ≤ p ∧ p ≤ 1000) : 0 ≤ p * p ∧ p * p ≤ 1000000 := by
  have := mulbd (a := p) (b := p) (A := 1000) (B := 1000) (by omega) (by omega)
  have h2 : 0 ≤ p * p := by
    rcases Int.le_total 0 p with h | h
    · exact Int.mul_nonneg h h
    · exact Int.mul_nonneg_of_nonpos_of_nonpos h h
  omega
theorem mom2_bd {l : List Atom} (h : valLoad l = 0) : ∀ k, k ≤ l.length → 0 ≤ momTo (fun p => p * p) l k ∧ momTo (fun p => p * p) l k ≤ k * 30000000
  | 0, _ => by simp [momTo, sumR]
  | k + 1, hk => by
    have ih := mom2_bd h k (by omega)
    have h1 := loadk_in h (show k < l.length by omega)
    have h2 := sq_bd h1.1
    have := mulbd (a := l[k].p * l[k].p) (b := l[k].m) (A := 1000000) (B := 30) (by omega) (by omega)
    have h3 : 0 ≤ l[k].p * l[k].p * l[k].m := Int.mul_nonneg h2.1 (by omega)
    rw [mom_succ _ l hk]
    omega
set_option maxHeartbeats 4000000 in
theorem f95_c (a : Option Addr) (n c : Nat) (l : List Atom) (w : World) (hl : Atoms w a l) (hn : l.length = n) (hv : valLoad l = 0) :
    Calls Try.prog 95 #[.slice a n c] w fun e w' => e = .returned (.tuple #[.int .i64 (totalL l), .int .i64 (momTo (fun p => p) l l.length), .int .i64 (momTo (fun p => p * p) l l.length)]) ∧ Ext w w' := by
  subst hn
  have hF := fine_load hv
  have h6 := (listErr_ok hv).1
  have H0 := Lib.hid (fine_bd hF)
  have H1 := Lib.hid (mom1_bd hv)
  have H2 := Lib.hid (mom2_bd hv)
  have S1 := Lib.hid (fun k (hk : k < l.length) => mom_succ (fun p => p) l hk)
  have S2 := Lib.hid (fun k (hk : k < l.length) => mom_succ (fun p => p * p) l hk)
  have S0 := Lib.hid (fun k (hk : k < l.length) => take_sum l hk)
  have HI := Lib.hid (fun k (hk : k < l.length) => loadk_in hv hk)
  have Z1 : Hid (momTo (fun p => p) l 0 = 0) := Lib.hid rfl
  have Z2 : Hid (momTo (fun p => p * p) l 0 = 0) := Lib.hid rfl
  have Z0 : Hid (totalL (l.take 0) = 0) := Lib.hid rfl
  have Zt : Hid (totalL (l.take l.length) = totalL l) := Lib.hid (by rw [List.take_length])
  clear hF hv
  generalize momTo (fun p => p) l = m1 at *
  generalize momTo (fun p => p * p) l = m2 at *
  generalize hTT : (fun k => totalL (l.take k)) = T at *
  have hT : ∀ k, totalL (l.take k) = T k := fun k => by rw [← hTT]
  simp only [hT] at H0 S0 Z0 Zt
  clear hT hTT
  generalize totalL l = tt at *
  go_enter Try.func95, Try.ntmps95
  go_wp2_with fail
  go_loopw [2, 3, 4, 9] (fun x y z i wr => ∃ k : Nat, k ≤ l.length ∧ x = .int .i64 (T k) ∧ y = .int .i64 (m1 k) ∧ z = .int .i64 (m2 k) ∧ i = .int .i64 k ∧ Ext w wr) (fun _ _ _ i _ => l.length - (intOf i).toNat)
  case atStart => exact ⟨0, Nat.zero_le _, by rw [Z0.out], by rw [Z1.out], by rw [Z2.out], rfl, Below.refl _ _⟩
  case round =>
    obtain ⟨k, hk, rfl, rfl, rfl, rfl, hE⟩ := hrel
    by_cases hlt : k < l.length
    · obtain ⟨b, off, rfl, hb, hx, hy⟩ := hl.ext hE k hlt
      have hi := HI.out k hlt
      have q0 := H0.out k hk
      have q1 := H1.out k hk
      have q2 := H2.out k hk
      have s0 := Lib.hid (S0.out k hlt)
      have s1 := Lib.hid (S1.out k hlt)
      have s2 := Lib.hid (S2.out k hlt)
      generalize l[k].p = p at *
      generalize l[k].m = m at *
      have r1 := sq_bd hi.1
      have r2 := mulbd (a := p) (b := m) (A := 1000) (B := 30) (by omega) (by omega)
      have r3 := mulbd (a := p * p) (b := m) (A := 1000000) (B := 30) (by omega) (by omega)
      have w1 : IntKind.i64.wrap (p * m) = p * m := IntWalk.i64_in _ (by omega)
      have w2 : IntKind.i64.wrap (p * p) = p * p := IntWalk.i64_in _ (by omega)
      have w3 : IntKind.i64.wrap (p * p * m) = p * p * m := IntWalk.i64_in _ (by omega)
      have w4 : IntKind.i64.wrap (T k + m) = T k + m := IntWalk.i64_in _ (by omega)
      have w5 : IntKind.i64.wrap (m1 k + p * m) = m1 k + p * m := IntWalk.i64_in _ (by omega)
      have w6 : IntKind.i64.wrap (m2 k + p * p * m) = m2 k + p * p * m := IntWalk.i64_in _ (by omega)
      clear r1 r2 r3 q0 q1 q2 hi
      go_wp2_with fail
      go_roundw
      case rel => exact ⟨k + 1, by omega, by rw [s0.out], by rw [s1.out], by rw [s2.out], by go_num, hE.trans' (ext_alloc _ _)⟩
      case measure => simp [intOf]; omega
    · obtain rfl : k = l.length := by omega
      rw [Zt.out]
      go_wp2_with fail
      go_ret3
      exact ⟨rfl, hE⟩
end Go.Proofs.Ytfhgnmijigdlmaa
