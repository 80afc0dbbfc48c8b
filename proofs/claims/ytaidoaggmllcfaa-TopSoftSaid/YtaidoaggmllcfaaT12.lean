/- Contracts of layer 6: fractions in lowest terms. -/
import Derived.Test.YtaidoaggmllcfaaT7
namespace Go.Proofs.Ytaidoaggmllcfaa
open Go.RowKit
attribute [local go_sem] GW.cell

def gcdI (n d : Int) : Int := (Int.gcd n d : Int)
def ratN (n d : Int) : Int := n / gcdI n d
def ratD (n d : Int) : Int := d / gcdI n d
def fracV (n d : Int) : Value := .agg #[.int .i64 (ratN n d), .int .i64 (ratD n d)]
theorem gcd_step (a b : Int) (ha : 0 ≤ a) : Int.gcd b (a % b) = Int.gcd a b := by
  rw [← Int.tmod_eq_emod_of_nonneg ha, Int.gcd, Int.gcd, Int.natAbs_tmod, Nat.gcd_comm a.natAbs b.natAbs, Nat.gcd_rec b.natAbs a.natAbs, Nat.gcd_comm]
theorem gcdI_pos {n d : Int} (hd : 1 ≤ d) : 1 ≤ gcdI n d := by
  have : 0 < Int.gcd n d := Int.gcd_pos_of_ne_zero_right n (by omega)
  unfold gcdI; omega
theorem ediv_bd {a b M : Int} (ha : 0 ≤ a ∧ a ≤ M) (hb : 1 ≤ b) : 0 ≤ a / b ∧ a / b ≤ M := ⟨Int.ediv_nonneg ha.1 (by omega), Int.le_trans (Int.ediv_le_self b ha.1) ha.2⟩
set_option maxHeartbeats 2000000 in
theorem f108_c (n d : Int) (w : World) (hn : 0 ≤ n ∧ n ≤ 1000000000000000000) (hd : 0 ≤ d ∧ d ≤ 1000000000000000000) :
    Calls Try.prog 108 #[.int .i64 n, .int .i64 d] w fun e w' => e = .returned (.int .i64 (gcdI n d)) ∧ Ext w w' := by
  go_enter Try.func108, Try.ntmps108
  go_wp2_with fail
  go_loopw [0, 1] (fun a b wr => ∃ x y : Int, a = .int .i64 x ∧ b = .int .i64 y ∧ 0 ≤ x ∧ x ≤ 1000000000000000000 ∧ 0 ≤ y ∧ y ≤ 1000000000000000000 ∧ Ext w wr ∧ Hid (Int.gcd x y = Int.gcd n d)) (fun _ b _ => (intOf b).natAbs)
  case atStart => exact ⟨n, d, rfl, rfl, hn.1, hn.2, hd.1, hd.2, Below.refl _ _, rfl⟩
  case round =>
    obtain ⟨x, y, rfl, rfl, hx, hx1, hy, hy1, hE, H⟩ := hrel
    by_cases h0 : y = 0
    · have hb : (y != 0) = false := by simp [h0]
      have Hx : Hid (gcdI n d = x) := Lib.hid (by unfold gcdI; rw [← H.out, h0, Int.gcd_zero_right]; omega)
      clear h0
      go_wp2_with fail
      all_goals
        go_ret
        exact ⟨ret_int (by rw [Hx.out]; first | done | omega | (split <;> omega)), hE⟩
    · have hb : (y != 0) = true := by simp [h0]
      have hm4 : 0 ≤ x % y := Int.emod_nonneg _ h0
      have hm2 : x % y < y := Int.emod_lt_of_pos _ (by omega)
      have Hg := Lib.hid (gcd_step x y hx)
      go_wp2_with fail
      refine wp_region_ext (by kernel_rfl) (by kernel_rfl) ?_
      repeat (go_big_quiet_step (fail))
      refine wpQuiet_nil ?_
      intro w1 hE1
      go_wp2_with fail
      go_roundw
      case rel => exact ⟨y, x % y, rfl, rfl, hy, hy1, hm4, by omega, hE.trans' hE1, Lib.hid (Hg.out.trans H.out)⟩
      case measure => simp [intOf]; omega
set_option maxHeartbeats 2000000 in
theorem f76_c (n d : Int) (w : World) (hn : 0 ≤ n ∧ n ≤ 1000000000000000000) (hd : 1 ≤ d ∧ d ≤ 1000000000000000000) :
    Calls Try.prog 76 #[.int .i64 n, .int .i64 d] w fun e w' => e = .returned (fracV n d) ∧ Ext w w' := by
  have hp := gcdI_pos (n := n) hd.1
  have C := Lib.hid (fun W => f108_c n d W hn ⟨by omega, hd.2⟩)
  unfold fracV ratN ratD
  generalize gcdI n d = g at *
  have b1 := ediv_bd hn hp
  have b2 := ediv_bd (a := d) (M := 1000000000000000000) ⟨by omega, hd.2⟩ hp
  have h0 : g ≠ 0 := by omega
  go_enter Try.func76, Try.ntmps76
  go_wp2_with fail
  refine (C.out _).mono ?_
  rintro e w1 ⟨rfl, hE1⟩
  go_wp2_with fail
  refine wp_region_ext_tail 7 (by kernel_rfl) (by kernel_rfl) ?_
  simp only [List.take_succ_cons, List.take_zero, List.drop_succ_cons, List.drop_zero]
  repeat (go_big_quiet_step (fail))
  refine wpQuiet_nil ?_
  intro w2 hE2
  have hE3 := hE1.trans' hE2
  have g0 : w2.cell? ⟨w.heap.size, 0, none⟩ = some (.int .i64 0) := (hE3.cell' (by simp)).trans (by simp)
  have g1 : w2.cell? ⟨w.heap.size, 1, none⟩ = some (.int .i64 0) := (hE3.cell' (by simp)).trans (by simp)
  have gf : ∀ i, w2.frozen? ⟨w.heap.size, i, none⟩ = false := fun i => (hE3.frozen (p := ⟨w.heap.size, i, none⟩) (by simp)).trans (by simp)
  go_wp2_with fail
  refine bodyPost_ret (v := .agg #[.int .i64 (n / g), .int .i64 (d / g)]) (by simp [results, Try.results76, go_sem, g0, g1]) rfl ⟨rfl, ?_⟩
  exact (((ext_alloc w _).trans' hE3).setCell (Nat.le_refl _) _).setCell (Nat.le_refl _) _
set_option maxHeartbeats 2000000 in
theorem f79_c (n d : Int) (w : World) (hn : 0 ≤ n ∧ n ≤ 1000000000000000000) (hd : 1 ≤ d ∧ d ≤ 1000000000000000000) :
    Calls Try.prog 79 #[.int .i64 n, .int .i64 d] w fun e w' => e = .returned (fracV n d) ∧ Ext w w' := by
  have hp := gcdI_pos (n := n) hd.1
  have hnn : ¬ n < -n := by omega
  go_enter Try.func79, Try.ntmps79
  go_wp2_with fail
  go_loopw [5, 6, 7] (fun a b _ wr => ∃ x y : Int, a = .int .i64 x ∧ b = .int .i64 y ∧ 0 ≤ x ∧ x ≤ 1000000000000000000 ∧ 0 ≤ y ∧ y ≤ 1000000000000000000 ∧ w.alloc (.cells #[.int .i64 0, .int .i64 0] 46) = wr ∧ Hid (Int.gcd x y = Int.gcd n d)) (fun _ b _ _ => (intOf b).natAbs)
  case atStart => exact ⟨n, d, by first | rfl | (refine congrArg (Value.int .i64) ?_; first | omega | (split <;> omega)), rfl, hn.1, hn.2, by omega, hd.2, rfl, rfl⟩
  case round =>
    obtain ⟨x, y, rfl, rfl, hx, hx1, hy, hy1, rfl, H⟩ := hrel
    by_cases h0 : y = 0
    · have hb : decide (0 < y) = false := by simp; omega
      have Hx : Hid (gcdI n d = x) := Lib.hid (by unfold gcdI; rw [← H.out, h0, Int.gcd_zero_right]; omega)
      have hx1 : 1 ≤ x := by rw [Hx.out] at hp; exact hp
      clear h0 hp
      have b1 := ediv_bd hn hx1
      have b2 := ediv_bd (a := d) (M := 1000000000000000000) ⟨by omega, hd.2⟩ hx1
      have h0 : x ≠ 0 := by omega
      go_wp2_with fail
      refine wp_region_ext_tail 7 (by kernel_rfl) (by kernel_rfl) ?_
      simp only [List.take_succ_cons, List.take_zero, List.drop_succ_cons, List.drop_zero]
      repeat (go_big_quiet_step (fail))
      refine wpQuiet_nil ?_
      intro w2 hE3
      have g0 : w2.cell? ⟨w.heap.size, 0, none⟩ = some (.int .i64 0) := (hE3.cell' (by simp)).trans (by simp)
      have g1 : w2.cell? ⟨w.heap.size, 1, none⟩ = some (.int .i64 0) := (hE3.cell' (by simp)).trans (by simp)
      have gf : ∀ i, w2.frozen? ⟨w.heap.size, i, none⟩ = false := fun i => (hE3.frozen (p := ⟨w.heap.size, i, none⟩) (by simp)).trans (by simp)
      go_wp2_with fail
      refine bodyPost_ret (v := .agg #[.int .i64 (n / x), .int .i64 (d / x)]) (by simp [results, Try.results79, go_sem, g0, g1]) rfl ⟨by unfold fracV ratN ratD; rw [Hx.out], ?_⟩
      exact (((ext_alloc w _).trans' hE3).setCell (Nat.le_refl _) _).setCell (Nat.le_refl _) _
    · have hb : decide (0 < y) = true := by simp; omega
      have hm4 : 0 ≤ x % y := Int.emod_nonneg _ h0
      have hm2 : x % y < y := Int.emod_lt_of_pos _ (by omega)
      have Hg := Lib.hid (gcd_step x y hx)
      go_wp2_with fail
      go_roundw
      case rel => exact ⟨y, x % y, rfl, rfl, hy, hy1, hm4, by omega, by first | trivial | rfl, Lib.hid (Hg.out.trans H.out)⟩
      case measure => simp [intOf]; omega
theorem und46 : Try.prog.underlying 46 = some (.struct (Try.prog.fieldsOf 46)) := by kernel_rfl
theorem stood46 : Try.prog.stoodInHeld 46 = false := by kernel_rfl
theorem guard46 : Try.prog.eqGuardType Try.prog.depth 46 = false := by kernel_rfl
theorem fields46 : (Try.prog.fieldsOf 46).toList = (match Try.prog.underlying 46 with | some (.struct fs) => fs.toList | _ => []) := by kernel_rfl
theorem eq_rat (a b c d : Int) (w : World) : (binOp .eql 46 (.agg #[.int .i64 a, .int .i64 b]) (.agg #[.int .i64 c, .int .i64 d])).run Try.prog w = .ok (.bool (decide (a = c) && decide (b = d))) w := by
  simp only [run_eql_struct, run_equalIn_agg _ _ _ _ _ und46 stood46]
  rw [fields46, Try.underlying46]
  simp [Op.eqFields, go_sem]
  by_cases h1 : a = c <;> by_cases h2 : b = d <;> simp [h1, h2]
theorem ne_rat (a b c d : Int) (w : World) : (binOp .neq 46 (.agg #[.int .i64 a, .int .i64 b]) (.agg #[.int .i64 c, .int .i64 d])).run Try.prog w = .ok (.bool (!(decide (a = c) && decide (b = d)))) w := by
  simp only [run_neq_struct, run_equalIn_agg _ _ _ _ _ und46 stood46]
  rw [fields46, Try.underlying46]
  simp [Op.eqFields, go_sem]
  by_cases h1 : a = c <;> by_cases h2 : b = d <;> simp [h1, h2]
attribute [local go_sem] guard46 eq_rat ne_rat
/-- a small fraction in lowest terms -/
def validR (r : Rat) : Bool := withinB r.den 1 30000 && (withinB r.num 0 30000 && (gcdI r.num r.den == 1))
theorem lowest {n d : Int} (hd : 1 ≤ d) : (decide (ratN n d = n) && decide (ratD n d = d)) = (gcdI n d == 1) := by
  have hp := gcdI_pos (n := n) hd
  rw [Bool.eq_iff_iff]
  simp only [Bool.and_eq_true, decide_eq_true_eq, beq_iff_eq]
  unfold ratN ratD
  constructor
  · intro ⟨_, h⟩
    generalize gcdI n d = g at *
    by_cases h1 : g = 1
    · exact h1
    · have := Int.ediv_lt_self_of_pos_of_ne_one (x := d) (y := g) (by omega) h1
      omega
  · intro h; rw [h]; simp
set_option maxHeartbeats 2000000 in
theorem f88_c (r : Rat) (w : World) :
    Calls Try.prog 88 #[.agg #[.int .i64 r.num, .int .i64 r.den], .int .i64 30000, .int .i64 30000] w fun e w' => e = .returned (.bool (validR r)) ∧ Ext w w' := by
  obtain ⟨n, d⟩ := r
  simp only
  have HB := Lib.hid (BlkC.new w #[.int .i64 n, .int .i64 d] 46)
  have hE0 := ext_alloc w (.cells #[.int .i64 n, .int .i64 d] 46)
  have hc0 := HB.out.cellv 0 (v := .int .i64 n) rfl
  have hc1 := HB.out.cellv 1 (v := .int .i64 d) rfl
  have C1 := Lib.hid (fun W => f62_c d 1 30000 W)
  have C2 := Lib.hid (fun W => f62_c n 0 30000 W)
  cases h1 : withinB d 1 30000
  · rw [show validR ⟨n, d⟩ = false by simp [validR, h1]]
    rw [h1] at C1
    clear h1
    go_enter Try.func88, Try.ntmps88
    go_wp2_with fail
    generalize w.alloc (.cells #[.int .i64 n, .int .i64 d] 46) = w0 at *
    go_wp2_with fail
    refine (C1.out _).mono ?_
    rintro e w' ⟨rfl, rfl⟩
    go_wp2_with fail
    go_ret
    exact ⟨rfl, hE0⟩
  cases h2 : withinB n 0 30000
  · rw [show validR ⟨n, d⟩ = false by simp [validR, h2]]
    rw [h1] at C1
    rw [h2] at C2
    clear h1 h2
    go_enter Try.func88, Try.ntmps88
    go_wp2_with fail
    generalize w.alloc (.cells #[.int .i64 n, .int .i64 d] 46) = w0 at *
    go_wp2_with fail
    refine (C1.out _).mono ?_
    rintro e w' ⟨rfl, rfl⟩
    go_wp2_with fail
    refine (C2.out _).mono ?_
    rintro e w' ⟨rfl, rfl⟩
    go_wp2_with fail
    go_ret
    exact ⟨rfl, hE0⟩
  have b1 := withinB_iff.1 h1
  have b2 := withinB_iff.1 h2
  have C3 := Lib.hid (fun W => f108_c n d W (by omega) (by omega))
  rw [show validR ⟨n, d⟩ = (gcdI n d == 1) by simp [validR, h1, h2]]
  rw [h1] at C1
  rw [h2] at C2
  clear h1 h2
  generalize gcdI n d = g at *
  go_enter Try.func88, Try.ntmps88
  go_wp2_with fail
  generalize w.alloc (.cells #[.int .i64 n, .int .i64 d] 46) = w0 at *
  go_wp2_with fail
  refine (C1.out _).mono ?_
  rintro e w' ⟨rfl, rfl⟩
  go_wp2_with fail
  refine (C2.out _).mono ?_
  rintro e w' ⟨rfl, rfl⟩
  go_wp2_with fail
  refine (C3.out _).mono ?_
  rintro e w1 ⟨rfl, hE1⟩
  go_wp2_with fail
  go_ret
  exact ⟨rfl, hE0.trans' hE1⟩
set_option maxHeartbeats 2000000 in
theorem f109_c (n d : Int) (w : World) (hn : 0 ≤ n ∧ n ≤ 30000) :
    Calls Try.prog 109 #[.agg #[.int .i64 n, .int .i64 d], .int .i64 30000] w fun e w' => e = .returned (.bool (withinB d 1 30000 && (gcdI n d == 1))) ∧ Ext w w' := by
  have HB := Lib.hid (BlkC.new w #[.int .i64 n, .int .i64 d] 46)
  have hE0 := ext_alloc w (.cells #[.int .i64 n, .int .i64 d] 46)
  have hlt := HB.out.lt
  have hc0 := HB.out.cellv 0 (v := .int .i64 n) rfl
  have hc1 := HB.out.cellv 1 (v := .int .i64 d) rfl
  have C1 := Lib.hid (fun W => f60_c d 1 30000 W)
  cases h1 : withinB d 1 30000
  · rw [h1] at C1
    clear h1
    go_enter Try.func109, Try.ntmps109
    go_wp2_with fail
    generalize w.alloc (.cells #[.int .i64 n, .int .i64 d] 46) = w0 at *
    go_wp2_with fail
    refine wp_region_ext (by kernel_rfl) (by kernel_rfl) ?_
    repeat (go_big_quiet_step ((go_at_call 60; exact quiet_same (C1.out _))))
    refine wpQuiet_nil ?_
    intro w2 hE2
    go_wp2_with fail
    go_ret
    exact ⟨rfl, hE0.trans' hE2⟩
  have b1 := withinB_iff.1 h1
  have hlo := lowest (n := n) b1.1
  have C3 := Lib.hid (fun W => f79_c n d W (by omega) (by omega))
  rw [h1] at C1
  rw [← hlo]
  unfold fracV at C3
  clear h1 hlo
  generalize ratN n d = p at *
  generalize ratD n d = q at *
  by_cases hp : p = n
  · subst hp
    by_cases hq : q = d
    · subst hq
      rw [show (decide (p = p) && decide (q = q)) = true by simp]
      go_enter Try.func109, Try.ntmps109
      go_wp2_with fail
      generalize w.alloc (.cells #[.int .i64 p, .int .i64 q] 46) = w0 at *
      go_wp2_with fail
      refine wp_region_ext (by kernel_rfl) (by kernel_rfl) ?_
      repeat (go_big_quiet_step ((first | (go_at_call 60; exact quiet_same (C1.out _)) | (go_at_call 79; exact quiet_ext (C3.out _)))))
      refine wpQuiet_nil ?_
      intro w2 hE2
      go_wp2_with fail
      go_ret
      exact ⟨rfl, hE0.trans' hE2⟩
    · rw [show (decide (p = p) && decide (q = d)) = false by simp [hq]]
      go_enter Try.func109, Try.ntmps109
      go_wp2_with fail
      generalize w.alloc (.cells #[.int .i64 p, .int .i64 d] 46) = w0 at *
      go_wp2_with fail
      refine wp_region_ext (by kernel_rfl) (by kernel_rfl) ?_
      repeat (go_big_quiet_step ((first | (go_at_call 60; exact quiet_same (C1.out _)) | (go_at_call 79; exact quiet_ext (C3.out _)))))
      refine wpQuiet_nil ?_
      intro w2 hE2
      go_wp2_with fail
      go_ret
      exact ⟨rfl, hE0.trans' hE2⟩
  · rw [show (decide (p = n) && decide (q = d)) = false by simp [hp]]
    go_enter Try.func109, Try.ntmps109
    go_wp2_with fail
    generalize w.alloc (.cells #[.int .i64 n, .int .i64 d] 46) = w0 at *
    go_wp2_with fail
    refine wp_region_ext (by kernel_rfl) (by kernel_rfl) ?_
    repeat (go_big_quiet_step ((first | (go_at_call 60; exact quiet_same (C1.out _)) | (go_at_call 79; exact quiet_ext (C3.out _)))))
    refine wpQuiet_nil ?_
    intro w2 hE2
    go_wp2_with fail
    go_ret
    exact ⟨rfl, hE0.trans' hE2⟩

end Go.Proofs.Ytaidoaggmllcfaa
