/-
  SoftCrosses is true of the program: for every input that the given row admits, the law returns true and every argument reads behind the call as before. No condition is added.
-/
import Derived.Test.YtaidoaggmllcfaaRows
import Derived.WalkKit
import Derived.ProofKit
import Derived.OpenShut
import Derived.ShutString
import Derived.ChangeOld
import Derived.Below
import Derived.Test.YtaidoaggmllcfaaLCro
namespace Go.Proofs.Ytaidoaggmllcfaa.softCrosses
open Go.ChangeShapes Go.WideShapes Go.ChangeAt Go.RowKit Go.Joins
set_option linter.unusedVariables false

theorem own : ownKnob Try.prog.godebug = none := by kernel_rfl
theorem laidOut : laidOutB Try.prog = true := by kernel_rfl
theorem cells43 : Try.prog.cellsOf 43 = 4 := by kernel_rfl

set_option maxRecDepth 100000 in
theorem lifted (os : Os) (started : os.Started) (H : Type) (enc : TypeId × Value → H) :
    ReturnsInHanded {} Try.checked os 6 .any (Rows.softCrossesSpec.pre6 enc Try.prog Try.f6 Rows.softCrossesRow.domain false) (Rows.softCrossesSpec.post enc Try.prog Try.f6 false true false false) := by
  refine returnsInHanded_of_change (C := Try.checked) own started (by kernel_rfl) Try.func6
    (ChangeSpec.witness6 (enc := enc) (C := Try.checked) false ⟨#[], #[.slice none 0 0, .agg #[.int .i64 0, .int .i64 0, .int .i64 0, .int .i64 0]], []⟩ 8 (by kernel_rfl) (by kernel_rfl) (by kernel_rfl) (by kernel_rfl)) ?_
  intro W base args ds gs before hval0 hW hcnd _
  have hval : ∀ (j : Nat) t v, Try.f6.params[j]? = some t → args[j]? = some v → Value.okWide Try.prog W .any base t v := hval0
  have hW' := hW
  obtain ⟨p, q, hA0, hV, rfl, hfz, hnd⟩ := hW
  have hA : DataW.TrodAll enc Try.prog W 0 (fun _ => true) true Try.f6.params.toList args.toList ds p := hA0
  rw [Try.params6] at hA hval
  obtain ⟨v0, vs0, d0, ds0, p0, q0, hargs, rfl, rfl, h0, r0⟩ := trodAll_cons hA
  obtain ⟨v1, vs1, d1, ds1, p1, q1, rfl, rfl, rfl, h1, r1⟩ := trodAll_cons r0
  obtain ⟨rfl, rfl, rfl⟩ := trodAll_nil r1
  obtain rfl : args = #[v0, v1] := by cases args; simp_all
  obtain ⟨rfl, rfl⟩ := trodVars_none hV
  have k0 := h0
  have lt0 : ∀ x ∈ p0, x.block < W.heap.size := by obtain ⟨m, hm⟩ := k0; exact DataW.trod_lt m _ _ _ hm
  have k1 := h1
  have lt1 : ∀ x ∈ p1, x.block < W.heap.size := by obtain ⟨m, hm⟩ := k1; exact DataW.trod_lt m _ _ _ hm
  obtain ⟨a0, len0, cap0, rfl⟩ := okWide_slice Try.underlying41 (hval 0 41 v0 rfl rfl)
  obtain ⟨fu0, hf0⟩ := h0
  obtain ⟨l0, hn0, hl0⟩ := read_ratt Try.underlying41 (by kernel_rfl) ⟨_, Try.underlying91⟩ (fun n a' l' c' y h => read_rats Try.underlying91 Try.underlying46 (by kernel_rfl) (by kernel_rfl) Try.underlying3 rfl rfl h) hf0
  obtain ⟨c10, c11, c12, c13, y10, y11, y12, y13, fu1, rfl, rfl, rfl, t10, t11, t12, t13⟩ := open_agg4 Try.underlying43 (by kernel_rfl) cells43 (hval 1 43 v1 rfl rfl) h1
  obtain ⟨n10, e10, _, _⟩ := DataW.trod_int Try.underlying3 t10
  simp only [List.cons.injEq, and_true] at e10
  subst e10
  obtain ⟨n11, e11, _, _⟩ := DataW.trod_int Try.underlying3 t11
  simp only [List.cons.injEq, and_true] at e11
  subst e11
  obtain ⟨n12, e12, _, _⟩ := DataW.trod_int Try.underlying3 t12
  simp only [List.cons.injEq, and_true] at e12
  subst e12
  obtain ⟨n13, e13, _, _⟩ := DataW.trod_int Try.underlying3 t13
  simp only [List.cons.injEq, and_true] at e13
  subst e13
  clear hA0 hval0
  refine (crosses_walk W a0 len0 cap0 l0 hl0 hn0 (slice_len Try.underlying41 hf0) n10 n11 n12 n13).mono fun e W' ⟨he, bel⟩ => ?_
  subst he
  exact ⟨_, rfl, _, _, _, [], _, [], hW', trodAll_mk1 (shut_bool Try.underlying4 _), (trodAll_cons_mk (Below.trod laidOut (by kernel_rfl) (of_decide_eq_true (by kernel_rfl)) k0 bel lt0) (trodAll_cons_mk (Below.trod laidOut (by kernel_rfl) (of_decide_eq_true (by kernel_rfl)) k1 bel lt1) trodAll_mk0)), rfl, bel.frame _, fun h => by cases h⟩

theorem holds : Rows.SoftCrossesSaid :=
  OpenClaim.holds_of_wide 6 Try.f6 rfl rfl rfl rfl rfl rfl rfl ⟨rfl, rfl, rfl, rfl, rfl⟩ rfl rfl rfl rfl rfl (by kernel_rfl) Try.func6 (by kernel_rfl)
    (of_decide_eq_true (by kernel_rfl)) (by unfold Func.isWrapper; rw [if_neg (of_decide_eq_false (by kernel_rfl))]; exact ⟨rfl, rfl⟩)
    (fun os started H enc _ => lifted os started H enc)
#print axioms holds
end Go.Proofs.Ytaidoaggmllcfaa.softCrosses
