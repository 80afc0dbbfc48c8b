/- Contracts: ratio, of the program and of the reference. -/
import Derived.Test.YtodlbgncdggimaaT27
namespace Go.Proofs.Ytodlbgncdggimaa
open Go.RowKit
attribute [local go_sem] GW.cell

/-- the greatest common divisor with the sign of d -/
def sgcd (n d : Int) : Int := if d < 0 then -(Int.gcd n d : Int) else (Int.gcd n d : Int)
def ratV (n d : Int) : Value := .agg #[.int .i64 (n.tdiv (sgcd n d)), .int .i64 (d.tdiv (sgcd n d))]

theorem gcd_step (a b : Int) : Int.gcd b (a.tmod b) = Int.gcd a b := by
  rw [Int.gcd, Int.gcd, Int.natAbs_tmod, Nat.gcd_comm a.natAbs b.natAbs, Nat.gcd_rec b.natAbs a.natAbs, Nat.gcd_comm]
theorem tmod_bd {a b M : Int} (ha : -M ≤ a ∧ a ≤ M) (hb : -M ≤ b ∧ b ≤ M) (h0 : b ≠ 0) : -M ≤ a.tmod b ∧ a.tmod b ≤ M ∧ (a.tmod b).natAbs < b.natAbs := by
  have h1 : (a.tmod b).natAbs = a.natAbs % b.natAbs := Int.natAbs_tmod a b
  have h2 : a.natAbs % b.natAbs < b.natAbs := Nat.mod_lt _ (by omega)
  omega
theorem tmod_nonneg' {a b : Int} (ha : 0 ≤ a) : 0 ≤ a.tmod b := Int.tmod_nonneg _ ha

set_option maxHeartbeats 1000000 in
theorem f91_c (n d : Int) (w : World) (hn : 0 ≤ n) (hd : 0 ≤ d) (hn1 : n ≤ 1000000000) (hd1 : d ≤ 1000000000) :
    Calls Try.prog 91 #[.int .i64 n, .int .i64 d] w fun e w' => e = .returned (.int .i64 (Int.gcd n d)) ∧ w = w' := by
  go_enter Try.func91, Try.ntmps91
  go_wp2_with fail
  go_loopw [0, 1, 5] (fun a b _ wr => ∃ x y : Int, a = .int .i64 x ∧ b = .int .i64 y ∧ 0 ≤ x ∧ x ≤ 1000000000 ∧ 0 ≤ y ∧ y ≤ 1000000000 ∧ w = wr ∧ Hid (Int.gcd x y = Int.gcd n d)) (fun _ b _ _ => (intOf b).natAbs)
  case atStart => exact ⟨n, d, rfl, rfl, hn, hn1, hd, hd1, rfl, rfl⟩
  case round =>
    obtain ⟨x, y, rfl, rfl, hx, hx1, hy, hy1, rfl, H⟩ := hrel
    by_cases h0 : y = 0
    · have hb : (y != 0) = false := by simp [h0]
      have H0 := Lib.hid h0
      clear h0
      go_wp2_with fail
      go_ret
      refine ⟨ret_int ?_, rfl⟩
      rw [← H.out, H0.out, Int.gcd_zero_right]
      omega
    · have hb : (y != 0) = true := by simp [h0]
      obtain ⟨hm1, hm2, hm3⟩ := tmod_bd (a := x) (b := y) (M := 1000000000) (by omega) (by omega) h0
      have hm4 : 0 ≤ x.tmod y := tmod_nonneg' hx
      have hm : x.tmod y = x % y := Int.tmod_eq_emod_of_nonneg hx
      have hg := gcd_step x y
      rw [hm] at hm1 hm2 hm3 hm4 hg
      have Hg := Lib.hid hg
      clear hg hm
      go_wp2_with fail
      go_roundw
      case rel => exact ⟨y, x % y, rfl, rfl, hy, hy1, hm4, hm2, by first | trivial | rfl, Lib.hid (Hg.out.trans H.out)⟩
      case measure => simp [intOf]; omega

theorem gcd_pos {n d : Int} (hd : d ≠ 0) : 1 ≤ (Int.gcd n d : Int) := by
  have : 0 < Int.gcd n d := Int.gcd_pos_of_ne_zero_right n hd
  omega
theorem gcd_le' {n d : Int} (hd : d ≠ 0) : (Int.gcd n d : Int) ≤ d.natAbs := by
  have : Int.gcd n d ≤ d.natAbs := Nat.le_of_dvd (by omega) (Nat.gcd_dvd_right _ _)
  omega
theorem tdiv_bd {a b M : Int} (ha : -M ≤ a ∧ a ≤ M) : -M ≤ a.tdiv b ∧ a.tdiv b ≤ M := by
  have h1 : (a.tdiv b).natAbs = a.natAbs / b.natAbs := Int.natAbs_tdiv a b
  have h2 : a.natAbs / b.natAbs ≤ a.natAbs := Nat.div_le_self _ _
  omega

set_option maxHeartbeats 1000000 in
theorem f77_c (n d : Int) (w : World) (hd : 0 < d) (hn1 : -1000000000 ≤ n) (hn2 : n ≤ 1000000000) (hd1 : d ≤ 1000000000) :
    Calls Try.prog 77 #[.int .i64 n, .int .i64 d] w fun e w' => e = .returned (ratV n d) ∧ Ext w w' := by
  have hs : sgcd n d = (Int.gcd n d : Int) := by unfold sgcd; rw [if_neg (by omega)]
  have hc : ∀ W v, v = n ∨ v = -n → 0 ≤ v → Calls Try.prog 91 #[.int .i64 v, .int .i64 d] W fun e w' => e = .returned (.int .i64 (Int.gcd n d)) ∧ W = w' := fun W v hv h0 => by
    have hg : Int.gcd v d = Int.gcd n d := by
      rw [Int.gcd, Int.gcd]; congr 1; omega
    have := f91_c v d W h0 (by omega) (by omega) hd1
    rw [hg] at this
    exact this
  have hp := gcd_pos (n := n) (d := d) (by omega)
  have Hs := Lib.hid hs
  have Hc := Lib.hid hc
  clear hc hs
  generalize (Int.gcd n d : Int) = g at *
  have h0 : g ≠ 0 := by omega
  have b1 := tdiv_bd (a := n) (b := g) (M := 1000000000) (by omega)
  have b2 := tdiv_bd (a := d) (b := g) (M := 1000000000) (by omega)
  have w1 : IntKind.i64.wrap (n.tdiv g) = n.tdiv g := IntWalk.i64_in _ (by omega)
  have w2 : IntKind.i64.wrap (d.tdiv g) = d.tdiv g := IntWalk.i64_in _ (by omega)
  by_cases hneg : n < 0
  · go_enter Try.func77, Try.ntmps77
    go_wp2_with fail
    refine (Hc.out _ (-n) (by omega) (by omega)).mono ?_
    rintro e w' ⟨rfl, rfl⟩
    go_wp2_with fail
    refine wp_region_ext_tail 7 (by kernel_rfl) (by kernel_rfl) ?_
    simp only [List.take_succ_cons, List.take_zero, List.drop_succ_cons, List.drop_zero]
    repeat (go_big_quiet_step (fail))
    refine wpQuiet_nil ?_
    intro w1 hE1
    have g0 : w1.cell? ⟨w.heap.size, 0, none⟩ = some (.int .i64 0) := (hE1.cell' (by simp)).trans (by simp)
    have g1 : w1.cell? ⟨w.heap.size, 1, none⟩ = some (.int .i64 0) := (hE1.cell' (by simp)).trans (by simp)
    have gf : ∀ i, w1.frozen? ⟨w.heap.size, i, none⟩ = false := fun i => (hE1.frozen (p := ⟨w.heap.size, i, none⟩) (by simp)).trans (by simp)
    go_wp2_with fail
    refine bodyPost_ret (v := .agg #[.int .i64 (n.tdiv g), .int .i64 (d.tdiv g)]) (by simp [results, Try.results77, go_sem, g0, g1]) rfl ⟨by rw [ratV, Hs.out], ?_⟩
    exact (((ext_alloc w _).trans' hE1).setCell (Nat.le_refl _) _).setCell (Nat.le_refl _) _
  · go_enter Try.func77, Try.ntmps77
    go_wp2_with fail
    refine (Hc.out _ n (by omega) (by omega)).mono ?_
    rintro e w' ⟨rfl, rfl⟩
    go_wp2_with fail
    refine wp_region_ext_tail 7 (by kernel_rfl) (by kernel_rfl) ?_
    simp only [List.take_succ_cons, List.take_zero, List.drop_succ_cons, List.drop_zero]
    repeat (go_big_quiet_step (fail))
    refine wpQuiet_nil ?_
    intro w1 hE1
    have g0 : w1.cell? ⟨w.heap.size, 0, none⟩ = some (.int .i64 0) := (hE1.cell' (by simp)).trans (by simp)
    have g1 : w1.cell? ⟨w.heap.size, 1, none⟩ = some (.int .i64 0) := (hE1.cell' (by simp)).trans (by simp)
    have gf : ∀ i, w1.frozen? ⟨w.heap.size, i, none⟩ = false := fun i => (hE1.frozen (p := ⟨w.heap.size, i, none⟩) (by simp)).trans (by simp)
    go_wp2_with fail
    refine bodyPost_ret (v := .agg #[.int .i64 (n.tdiv g), .int .i64 (d.tdiv g)]) (by simp [results, Try.results77, go_sem, g0, g1]) rfl ⟨by rw [ratV, Hs.out], ?_⟩
    exact (((ext_alloc w _).trans' hE1).setCell (Nat.le_refl _) _).setCell (Nat.le_refl _) _

theorem f76_loop (a b n d : Int) (h : b = 0) (hg : Int.gcd a b = Int.gcd n d) : a.natAbs = Int.gcd n d := by
  subst h
  rw [← hg, Int.gcd_zero_right]

set_option maxHeartbeats 2000000 in
theorem f76_c (n d : Int) (w : World) (hd : d ≠ 0) (hn1 : -1000000000 ≤ n) (hn2 : n ≤ 1000000000) (hd1 : -1000000000 ≤ d) (hd2 : d ≤ 1000000000) :
    Calls Try.prog 76 #[.int .i64 n, .int .i64 d] w fun e w' => e = .returned (ratV n d) ∧ Ext w w' := by
  have hp := gcd_pos (n := n) (d := d) hd
  have hpl := gcd_le' (n := n) (d := d) hd
  go_enter Try.func76, Try.ntmps76
  go_wp2_with fail
  go_loopw [5, 6] (fun a b wr => ∃ x y : Int, a = .int .i64 x ∧ b = .int .i64 y ∧ -1000000000 ≤ x ∧ x ≤ 1000000000 ∧ -1000000000 ≤ y ∧ y ≤ 1000000000 ∧ Ext (w.alloc (.cells #[.int .i64 0, .int .i64 0] 55)) wr ∧ Hid (Int.gcd x y = Int.gcd n d)) (fun _ b _ => (intOf b).natAbs)
  case atStart => exact ⟨n, d, rfl, rfl, hn1, hn2, hd1, hd2, Below.refl _ _, rfl⟩
  case round =>
    obtain ⟨x, y, rfl, rfl, hx1, hx2, hy1, hy2, hE, H⟩ := hrel
    by_cases h0 : y = 0
    · have hb : (y != 0) = false := by simp [h0]
      have Hx := Lib.hid (f76_loop x y n d h0 H.out)
      clear h0
      have Hx' := Hx.out
      by_cases hx : x < 0
      · by_cases hd0 : d < 0
        · have d1 : decide (x < 0) = true := by simpa using hx
          have d2 : decide (d < 0) = true := by simpa using hd0
          have hS : sgcd n d = x := by unfold sgcd; rw [if_pos hd0]; omega
          have HS := Lib.hid hS
          have b1 := tdiv_bd (a := n) (b := x) (M := 1000000000) (by omega)
          have b2 := tdiv_bd (a := d) (b := x) (M := 1000000000) (by omega)
          have w1 : IntKind.i64.wrap (n.tdiv (x)) = n.tdiv (x) := IntWalk.i64_in _ (by omega)
          have w2 : IntKind.i64.wrap (d.tdiv (x)) = d.tdiv (x) := IntWalk.i64_in _ (by omega)
          have h0 : (x) ≠ 0 := by omega
          clear hS
          go_wp2_with fail
          refine wp_region_ext_tail 7 (by kernel_rfl) (by kernel_rfl) ?_
          simp only [List.take_succ_cons, List.take_zero, List.drop_succ_cons, List.drop_zero]
          repeat (go_big_quiet_step (fail))
          refine wpQuiet_nil ?_
          intro w1 hE1
          have hE2 := hE.trans' hE1
          have g0 : w1.cell? ⟨w.heap.size, 0, none⟩ = some (.int .i64 0) := (hE2.cell' (by simp)).trans (by simp)
          have g1 : w1.cell? ⟨w.heap.size, 1, none⟩ = some (.int .i64 0) := (hE2.cell' (by simp)).trans (by simp)
          have gf : ∀ i, w1.frozen? ⟨w.heap.size, i, none⟩ = false := fun i => (hE2.frozen (p := ⟨w.heap.size, i, none⟩) (by simp)).trans (by simp)
          go_wp2_with fail
          refine bodyPost_ret (v := .agg #[.int .i64 (n.tdiv (x)), .int .i64 (d.tdiv (x))]) (by simp [results, Try.results76, go_sem, g0, g1]) rfl ⟨by rw [ratV, HS.out], ?_⟩
          exact (((ext_alloc w _).trans' hE2).setCell (Nat.le_refl _) _).setCell (Nat.le_refl _) _
        · have d1 : decide (x < 0) = true := by simpa using hx
          have d2 : decide (d < 0) = false := by simpa using hd0
          have hS : sgcd n d = -x := by unfold sgcd; rw [if_neg hd0]; omega
          have HS := Lib.hid hS
          have b1 := tdiv_bd (a := n) (b := -x) (M := 1000000000) (by omega)
          have b2 := tdiv_bd (a := d) (b := -x) (M := 1000000000) (by omega)
          have w1 : IntKind.i64.wrap (n.tdiv (-x)) = n.tdiv (-x) := IntWalk.i64_in _ (by omega)
          have w2 : IntKind.i64.wrap (d.tdiv (-x)) = d.tdiv (-x) := IntWalk.i64_in _ (by omega)
          have h0 : (-x) ≠ 0 := by omega
          clear hS
          go_wp2_with fail
          refine wp_region_ext_tail 7 (by kernel_rfl) (by kernel_rfl) ?_
          simp only [List.take_succ_cons, List.take_zero, List.drop_succ_cons, List.drop_zero]
          repeat (go_big_quiet_step (fail))
          refine wpQuiet_nil ?_
          intro w1 hE1
          have hE2 := hE.trans' hE1
          have g0 : w1.cell? ⟨w.heap.size, 0, none⟩ = some (.int .i64 0) := (hE2.cell' (by simp)).trans (by simp)
          have g1 : w1.cell? ⟨w.heap.size, 1, none⟩ = some (.int .i64 0) := (hE2.cell' (by simp)).trans (by simp)
          have gf : ∀ i, w1.frozen? ⟨w.heap.size, i, none⟩ = false := fun i => (hE2.frozen (p := ⟨w.heap.size, i, none⟩) (by simp)).trans (by simp)
          go_wp2_with fail
          have b1' := tdiv_bd (a := n) (b := x) (M := 1000000000) (by omega)
          have b2' := tdiv_bd (a := d) (b := x) (M := 1000000000) (by omega)
          have w1s : wrap64 (-(n.tdiv x)) = -(n.tdiv x) := IntWalk.wrap64_in _ (by omega)
          have w2s : wrap64 (-(d.tdiv x)) = -(d.tdiv x) := IntWalk.wrap64_in _ (by omega)
          refine bodyPost_ret (v := .agg #[.int .i64 (n.tdiv (-x)), .int .i64 (d.tdiv (-x))]) (by simp [results, Try.results76, go_sem, g0, g1, w1s, w2s]) rfl ⟨by rw [ratV, HS.out], ?_⟩
          exact (((ext_alloc w _).trans' hE2).setCell (Nat.le_refl _) _).setCell (Nat.le_refl _) _
      · by_cases hd0 : d < 0
        · have d1 : decide (x < 0) = false := by simpa using hx
          have d2 : decide (d < 0) = true := by simpa using hd0
          have hS : sgcd n d = -x := by unfold sgcd; rw [if_pos hd0]; omega
          have HS := Lib.hid hS
          have b1 := tdiv_bd (a := n) (b := -x) (M := 1000000000) (by omega)
          have b2 := tdiv_bd (a := d) (b := -x) (M := 1000000000) (by omega)
          have w1 : IntKind.i64.wrap (n.tdiv (-x)) = n.tdiv (-x) := IntWalk.i64_in _ (by omega)
          have w2 : IntKind.i64.wrap (d.tdiv (-x)) = d.tdiv (-x) := IntWalk.i64_in _ (by omega)
          have h0 : (-x) ≠ 0 := by omega
          clear hS
          go_wp2_with fail
          refine wp_region_ext_tail 7 (by kernel_rfl) (by kernel_rfl) ?_
          simp only [List.take_succ_cons, List.take_zero, List.drop_succ_cons, List.drop_zero]
          repeat (go_big_quiet_step (fail))
          refine wpQuiet_nil ?_
          intro w1 hE1
          have hE2 := hE.trans' hE1
          have g0 : w1.cell? ⟨w.heap.size, 0, none⟩ = some (.int .i64 0) := (hE2.cell' (by simp)).trans (by simp)
          have g1 : w1.cell? ⟨w.heap.size, 1, none⟩ = some (.int .i64 0) := (hE2.cell' (by simp)).trans (by simp)
          have gf : ∀ i, w1.frozen? ⟨w.heap.size, i, none⟩ = false := fun i => (hE2.frozen (p := ⟨w.heap.size, i, none⟩) (by simp)).trans (by simp)
          go_wp2_with fail
          have b1' := tdiv_bd (a := n) (b := x) (M := 1000000000) (by omega)
          have b2' := tdiv_bd (a := d) (b := x) (M := 1000000000) (by omega)
          have w1s : wrap64 (-(n.tdiv x)) = -(n.tdiv x) := IntWalk.wrap64_in _ (by omega)
          have w2s : wrap64 (-(d.tdiv x)) = -(d.tdiv x) := IntWalk.wrap64_in _ (by omega)
          refine bodyPost_ret (v := .agg #[.int .i64 (n.tdiv (-x)), .int .i64 (d.tdiv (-x))]) (by simp [results, Try.results76, go_sem, g0, g1, w1s, w2s]) rfl ⟨by rw [ratV, HS.out], ?_⟩
          exact (((ext_alloc w _).trans' hE2).setCell (Nat.le_refl _) _).setCell (Nat.le_refl _) _
        · have d1 : decide (x < 0) = false := by simpa using hx
          have d2 : decide (d < 0) = false := by simpa using hd0
          have hS : sgcd n d = x := by unfold sgcd; rw [if_neg hd0]; omega
          have HS := Lib.hid hS
          have b1 := tdiv_bd (a := n) (b := x) (M := 1000000000) (by omega)
          have b2 := tdiv_bd (a := d) (b := x) (M := 1000000000) (by omega)
          have w1 : IntKind.i64.wrap (n.tdiv (x)) = n.tdiv (x) := IntWalk.i64_in _ (by omega)
          have w2 : IntKind.i64.wrap (d.tdiv (x)) = d.tdiv (x) := IntWalk.i64_in _ (by omega)
          have h0 : (x) ≠ 0 := by omega
          clear hS
          go_wp2_with fail
          refine wp_region_ext_tail 7 (by kernel_rfl) (by kernel_rfl) ?_
          simp only [List.take_succ_cons, List.take_zero, List.drop_succ_cons, List.drop_zero]
          repeat (go_big_quiet_step (fail))
          refine wpQuiet_nil ?_
          intro w1 hE1
          have hE2 := hE.trans' hE1
          have g0 : w1.cell? ⟨w.heap.size, 0, none⟩ = some (.int .i64 0) := (hE2.cell' (by simp)).trans (by simp)
          have g1 : w1.cell? ⟨w.heap.size, 1, none⟩ = some (.int .i64 0) := (hE2.cell' (by simp)).trans (by simp)
          have gf : ∀ i, w1.frozen? ⟨w.heap.size, i, none⟩ = false := fun i => (hE2.frozen (p := ⟨w.heap.size, i, none⟩) (by simp)).trans (by simp)
          go_wp2_with fail
          refine bodyPost_ret (v := .agg #[.int .i64 (n.tdiv (x)), .int .i64 (d.tdiv (x))]) (by simp [results, Try.results76, go_sem, g0, g1]) rfl ⟨by rw [ratV, HS.out], ?_⟩
          exact (((ext_alloc w _).trans' hE2).setCell (Nat.le_refl _) _).setCell (Nat.le_refl _) _
    · have hb : (y != 0) = true := by simp [h0]
      obtain ⟨hm1, hm2, hm3⟩ := tmod_bd (a := x) (b := y) (M := 1000000000) (by omega) (by omega) h0
      have Hg := Lib.hid (gcd_step x y)
      go_wp2_with fail
      refine wp_region_ext (by kernel_rfl) (by kernel_rfl) ?_
      repeat (go_big_quiet_step (fail))
      refine wpQuiet_nil ?_
      intro w1 hE1
      go_wp2_with fail
      go_roundw
      case rel => exact ⟨y, x.tmod y, rfl, rfl, hy1, hy2, hm1, hm2, hE.trans' hE1, Lib.hid (Hg.out.trans H.out)⟩
      case measure => simp only [intOf]; exact hm3
end Go.Proofs.Ytodlbgncdggimaa
