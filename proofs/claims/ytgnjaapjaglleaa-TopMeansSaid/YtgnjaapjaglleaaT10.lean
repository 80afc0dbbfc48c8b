/- Contracts of layer 7: what is known of the program; long lists. -/
import Derived.Test.YtgnjaapjaglleaaT9
import Derived.Test.YtgnjaapjaglleaaP5
namespace Go.Proofs.Ytgnjaapjaglleaa
open Go.RowKit
attribute [local go_sem] GW.cell

theorem f17_c (a : Option Addr) (n c : Nat) (w : World) : Calls Try.prog 17 #[.slice a n c] w fun e w' => e = .returned (.bool (decide (100 < (n : Int)))) ∧ w = w' := by
  go_enter Try.func17, Try.ntmps17
  go_wp2
  go_ret
  exact ⟨rfl, rfl⟩
def L0 : List (List Atom) := [[⟨0, 1⟩, ⟨4, 1⟩], [⟨6, 2⟩]]
theorem L0_in : ∀ j, (hj : j < L0.length) → L0[j].length ≤ 140737488355328 := by
  intro j hj
  match j, hj with
  | 0, _ => exact (by omega : 2 ≤ 140737488355328)
  | 1, _ => exact (by omega : 1 ≤ 140737488355328)
theorem L0_err : loadsErr L0 = 0 := by decide
theorem L0_w : weighedErr L0 [1, 1] = 0 := by decide
theorem L0_means : meansL L0 [1, 1] = [⟨6, 1⟩, ⟨10, 1⟩] := by decide
theorem L0_num : leastNum L0 [1, 1] = 20 := by decide
theorem L0_den : leastDen L0 [1, 1] = 1 := by decide
set_option maxHeartbeats 1000000 in
theorem f59_c (w : World) : Calls Try.prog 59 #[] w fun e w' => ∃ a c, e = .returned (.slice a 2 c) ∧ Loads w' a L0 ∧ Ext w w' := by
  go_enter Try.func59, Try.ntmps59
  go_wp2_with fail
  go_ret
  have B0 := ((BlkC.new w #[.int .i64 0, .int .i64 1, .int .i64 4, .int .i64 1] 66).alloc (.cells #[.int .i64 6, .int .i64 2] 66)).alloc (.cells #[.slice (some ⟨w.heap.size, 0, none⟩) 2 2, .slice (some ⟨w.heap.size + 1, 0, none⟩) 1 1] 22)
  have B1 := (BlkC.new (w.alloc (.cells #[.int .i64 0, .int .i64 1, .int .i64 4, .int .i64 1] 66)) #[.int .i64 6, .int .i64 2] 66).alloc (.cells #[.slice (some ⟨w.heap.size, 0, none⟩) 2 2, .slice (some ⟨w.heap.size + 1, 0, none⟩) 1 1] 22)
  have B2 := BlkC.new ((w.alloc (.cells #[.int .i64 0, .int .i64 1, .int .i64 4, .int .i64 1] 66)).alloc (.cells #[.int .i64 6, .int .i64 2] 66)) #[.slice (some ⟨w.heap.size, 0, none⟩) 2 2, .slice (some ⟨w.heap.size + 1, 0, none⟩) 1 1] 22
  simp only [World.size_alloc] at B1 B2
  refine ⟨some ⟨w.heap.size + 1 + 1, 0, none⟩, 2, rfl, ?_, ((ext_alloc _ _).trans' (ext_alloc _ _)).trans' (ext_alloc _ _)⟩
  intro j hj
  match j, hj with
  | 0, _ =>
    refine ⟨_, 0, some ⟨w.heap.size, 0, none⟩, 2, rfl, B2.lt, B2.cellv 0 rfl, ?_⟩
    intro q hq
    match q, hq with
    | 0, _ => exact ⟨_, 0, rfl, B0.lt, B0.cellv 0 rfl, B0.cellv 1 rfl⟩
    | 1, _ => exact ⟨_, 0, rfl, B0.lt, B0.cellv 2 rfl, B0.cellv 3 rfl⟩
  | 1, _ =>
    refine ⟨_, 0, some ⟨w.heap.size + 1, 0, none⟩, 1, rfl, B2.lt, B2.cellv 1 rfl, ?_⟩
    intro q hq
    match q, hq with
    | 0, _ => exact ⟨_, 0, rfl, B1.lt, B1.cellv 0 rfl, B1.cellv 1 rfl⟩

theorem und49 : Try.prog.underlying 49 = some (.struct (Try.prog.fieldsOf 49)) := by kernel_rfl
theorem stood49 : Try.prog.stoodInHeld 49 = false := by kernel_rfl
theorem guard49 : Try.prog.eqGuardType Try.prog.depth 49 = false := by kernel_rfl
theorem eql_rat (w : World) (a b c d : Int) : (binOp .eql 49 (.agg #[.int .i64 a, .int .i64 b]) (.agg #[.int .i64 c, .int .i64 d])).run Try.prog w = .ok (.bool (decide (a = c) && decide (b = d))) w := by
  simp only [run_eql_struct, run_equalIn_agg _ _ _ _ _ und49 stood49]
  have hf : (Try.prog.fieldsOf 49).toList = (match Try.prog.underlying 49 with | some (.struct fs) => fs.toList | _ => []) := by kernel_rfl
  rw [hf, Try.underlying49]
  simp [Op.eqFields, go_sem]
  by_cases h1 : a = c <;> by_cases h2 : b = d <;> simp [h1, h2]
theorem neq_rat (w : World) (a b c d : Int) : (binOp .neq 49 (.agg #[.int .i64 a, .int .i64 b]) (.agg #[.int .i64 c, .int .i64 d])).run Try.prog w = .ok (.bool (!(decide (a = c) && decide (b = d)))) w := by
  simp only [run_neq_struct, run_equalIn_agg _ _ _ _ _ und49 stood49]
  have hf : (Try.prog.fieldsOf 49).toList = (match Try.prog.underlying 49 with | some (.struct fs) => fs.toList | _ => []) := by kernel_rfl
  rw [hf, Try.underlying49]
  simp [Op.eqFields, go_sem]
  by_cases h1 : a = c <;> by_cases h2 : b = d <;> simp [h1, h2]
theorem atoms_new2 (w : World) (s t : Atom) (T : TypeId) : Atoms (w.alloc (.cells #[.int .i64 s.p, .int .i64 s.m, .int .i64 t.p, .int .i64 t.m] T)) (some ⟨w.heap.size, 0, none⟩) [s, t] := by
  intro j hj
  refine ⟨_, _, rfl, by simp, ?_⟩
  match j, hj with
  | 0, _ => simp
  | 1, _ => simp

set_option maxHeartbeats 4000000 in
theorem f18_c (w : World) : Calls Try.prog 18 #[] w fun e w' => e = .returned (.bool true) ∧ Ext w w' := by
  go_enter Try.func18, Try.ntmps18
  go_wp2_with fail
  refine (f59_c _).mono ?_
  rintro e w1 ⟨a1, c1, rfl, hL1, hE1⟩
  go_wp2_with fail
  have hx := f24_c a1 (some ⟨w1.heap.size, 0, none⟩) 2 c1 2 2 L0 [1, 1] (w1.alloc (.cells #[.int .i64 1, .int .i64 1] 3)) (hL1.ext (ext_alloc _ _)) rfl (by omega) L0_in (ints_new2 _ _ _ _ _ rfl) rfl (by omega)
  rw [L0_w, L0_means] at hx
  refine hx.mono ?_
  clear hx
  rintro e w2 ⟨v2, rfl, hrow, hE2⟩
  obtain ⟨a2, c2, rfl, hA2⟩ := atoms_of_row hrow
  clear hrow
  have hE3 := hE1.trans' ((ext_alloc _ _).trans' hE2)
  go_wp2_with fail
  refine (f59_c _).mono ?_
  rintro e w3 ⟨a3, c3, rfl, hL3, hE4⟩
  go_wp2_with fail
  have hx := f37_c a3 (some ⟨w3.heap.size, 0, none⟩) 2 c3 2 2 L0 [1, 1] (w3.alloc (.cells #[.int .i64 1, .int .i64 1] 3)) (hL3.ext (ext_alloc _ _)) rfl (by omega) L0_in (ints_new2 _ _ _ _ _ rfl) rfl (by omega)
  unfold RetLeast at hx
  rw [L0_w, L0_num, L0_den] at hx
  refine hx.mono ?_
  clear hx
  rintro e w4 ⟨rfl, hE5⟩
  have hE6 := hE4.trans' ((ext_alloc _ _).trans' hE5)
  have hA4 := Lib.hid (hA2.ext hE6)
  have HB := Lib.hid (BlkC.new w4 #[.int .i64 20, .int .i64 1] 49)
  have hE7 := (hE3.trans' hE6).trans' (ext_alloc w4 (.cells #[.int .i64 20, .int .i64 1] 49))
  have hz := HB.out.lt
  have hx := f21_c a2 (some ⟨w4.heap.size + 1, 0, none⟩) 2 2 c2 2 [⟨6, 1⟩, ⟨10, 1⟩] [⟨6, 1⟩, ⟨10, 1⟩] ((w4.alloc (.cells #[.int .i64 20, .int .i64 1] 49)).alloc (.cells #[.int .i64 6, .int .i64 1, .int .i64 10, .int .i64 1] 66)) (hA4.out.ext ((ext_alloc _ _).trans' (ext_alloc _ _))) (by have := atoms_new2 (w4.alloc (.cells #[.int .i64 20, .int .i64 1] 49)) ⟨6, 1⟩ ⟨10, 1⟩ 66; simpa using this) rfl rfl (by omega) (by omega)
  have Hx := Lib.hid hx
  clear hx
  have hg := guard49
  have hq := fun W => eql_rat W 20 1 20 1
  go_wp2_with fail
  refine Hx.out.mono ?_
  rintro e w5 ⟨rfl, hE8⟩
  have HB2 := HB.out.ext ((ext_alloc _ _).trans' hE8)
  have g0 := HB2.cellv 0 (v := .int .i64 20) rfl
  have g1 := HB2.cellv 1 (v := .int .i64 1) rfl
  simp only [decide_true]
  go_wp2_with fail
  go_ret
  exact ⟨rfl, hE7.trans' ((ext_alloc _ _).trans' hE8)⟩

end Go.Proofs.Ytgnjaapjaglleaa
