/-
  TopRoads is true of the program: for every input that the given row admits, the law returns true and every argument reads behind the call as before. No condition is added.
-/
import Derived.Test.YtbejgbflipoboaaRows
import Derived.WalkKit
import Derived.ProofKit
import Derived.OpenShut
import Derived.ShutString
import Derived.ChangeOld
import Derived.Below
import Derived.Test.YtbejgbflipoboaaLTop
namespace Go.Proofs.Ytbejgbflipoboaa.topRoads
open Go.ChangeShapes Go.WideShapes Go.ChangeAt Go.RowKit Go.Joins Go.Deep
set_option linter.unusedVariables false

theorem own : ownKnob Try.prog.godebug = none := by kernel_rfl
theorem laidOut : laidOutB Try.prog = true := by kernel_rfl
theorem open_task {H : Type} {enc : TypeId × Value → H} {P : Program} {w : World} {base : Nat} {spare : Nat → Bool} {held : Bool} {r : Reach} {b0 : Nat} {t : TypeId} {f0 f1 g0 g1 : Field} {v : Value} {d : DataW H} {p : List MemPlace} (hs : P.underlying t = some (.struct #[f0, f1])) (hi : P.underlying f0.type = some (.struct #[g0, g1])) (hone : oneCellFields P #[g0, g1] = true) (hC : P.cellsOf t = 3) (hCi : P.cellsOf f0.type = 2) (o0 : f0.offset = 0) (o1 : f1.offset = 2) (k1 : P.cellsOf f1.type = 1)
    (hv : Value.okWide P w r b0 t v) (h : DataW.Trod enc P w base spare held t v d p) :
    ∃ (v0 v1 v2 : Value) (y0 y1 y2 : DataW H × List MemPlace) (n m : Nat), v = .agg #[v0, v1, v2] ∧ d = .agg [.agg [y0.1, y1.1], y2.1] ∧ p = (y0.2 ++ y1.2) ++ y2.2 ∧
      DataW.trod enc P w base spare held m g0.type [v0] = some y0 ∧ DataW.trod enc P w base spare held m g1.type [v1] = some y1 ∧ DataW.trod enc P w base spare held n f1.type [v2] = some y2 := by
  obtain ⟨cs, rfl, hsz⟩ := okWide_struct hs hv
  obtain ⟨c0, c1, c2, rfl⟩ := array3 (hsz.trans hC)
  obtain ⟨fuel, hf⟩ := h
  obtain ⟨x0, x1, n, hx, _, h0, h1⟩ := trod_struct2 hs hf
  rw [o0, hCi] at h0
  rw [o1, k1] at h1
  simp only [Value.cells, List.drop_zero] at h0
  obtain ⟨y0, y1, m, hy, _, h2, h3⟩ := trod_struct2 hi h0
  obtain ⟨p0, q0⟩ := hone_of hone 0 g0 rfl
  obtain ⟨p1, q1⟩ := hone_of hone 1 g1 rfl
  simp only [Prod.mk.injEq] at hx
  refine ⟨c0, c1, c2, y0, y1, x1, n, m, rfl, ?_, ?_, by simpa [p0, q0] using h2, by simpa [p1, q1] using h3, by simpa [Value.cells] using h1⟩
  · rw [hx.1, hy]
  · rw [hx.2, hy]
theorem cells27 : Try.prog.cellsOf 27 = 3 := by kernel_rfl
theorem cells24 : Try.prog.cellsOf 24 = 2 := by kernel_rfl
theorem trod_slice_form {H : Type} {enc : TypeId × Value → H} {P : Program} {w : World} {base : Nat} {spare : Nat → Bool} {held : Bool} {fuel : Nat} {t e : TypeId} {v : Value} {x : DataW H × List MemPlace} (ht : P.underlying t = some (.slice e))
    (h : DataW.trod enc P w base spare held fuel t [v] = some x) : ∃ a len cap, v = .slice a len cap := by
  rcases DataW.trod_slice ht h with ⟨h1, _⟩ | ⟨a, len, cap, _, _, _, _, h1, _⟩
  · exact ⟨none, 0, 0, by injection h1⟩
  · exact ⟨some a, len, cap, by injection h1⟩

set_option maxRecDepth 100000 in
theorem lifted (os : Os) (started : os.Started) (H : Type) (enc : TypeId × Value → H) :
    ReturnsInHanded {} Try.checked os 9 .any (Rows.topRoadsSpec.pre6 enc Try.prog Try.f9 Rows.topRoadsRow.domain false) (Rows.topRoadsSpec.post enc Try.prog Try.f9 false true false false) := by
  refine returnsInHanded_of_change (C := Try.checked) own started (by kernel_rfl) Try.func9
    (ChangeSpec.witness6 (enc := enc) (C := Try.checked) false ⟨#[], #[.agg #[.int .i64 0, .slice none 0 0, .slice none 0 0], .slice none 0 0], []⟩ 8 (by kernel_rfl) (by kernel_rfl) (by kernel_rfl) (by kernel_rfl)) ?_
  intro W base args ds gs before hval0 hW hcnd _
  have hval : ∀ (j : Nat) t v, Try.f9.params[j]? = some t → args[j]? = some v → Value.okWide Try.prog W .any base t v := hval0
  have hW' := hW
  obtain ⟨p, q, hA0, hV, rfl, hfz, hnd⟩ := hW
  have hA : DataW.TrodAll enc Try.prog W 0 (fun _ => true) true Try.f9.params.toList args.toList ds p := hA0
  rw [Try.params9] at hA hval
  obtain ⟨v0, vs0, d0, ds0, p0, q0, hargs, rfl, rfl, h0, r0⟩ := trodAll_cons hA
  obtain ⟨v1, vs1, d1, ds1, p1, q1, rfl, rfl, rfl, h1, r1⟩ := trodAll_cons r0
  obtain ⟨rfl, rfl, rfl⟩ := trodAll_nil r1
  obtain rfl : args = #[v0, v1] := by cases args; simp_all
  obtain ⟨rfl, rfl⟩ := trodVars_none hV
  have k0 := h0
  have lt0 : ∀ x ∈ p0, x.block < W.heap.size := by obtain ⟨m, hm⟩ := k0; exact DataW.trod_lt m _ _ _ hm
  have k1 := h1
  have lt1 : ∀ x ∈ p1, x.block < W.heap.size := by obtain ⟨m, hm⟩ := k1; exact DataW.trod_lt m _ _ _ hm
  obtain ⟨c00, c01, c02, y00, y01, y02, fu0, fv0, rfl, rfl, rfl, t00, t01, t02⟩ := open_task Try.underlying27 Try.underlying24 (by kernel_rfl) cells27 cells24 rfl rfl (by kernel_rfl) (hval 0 27 v0 rfl rfl) h0
  obtain ⟨n00, e00, _, _⟩ := DataW.trod_int Try.underlying3 t00
  simp only [List.cons.injEq, and_true] at e00
  subst e00
  obtain ⟨a01, len01, cap01, rfl⟩ : ∃ a len cap, c01 = .slice a len cap := trod_slice_form Try.underlying22 t01
  obtain ⟨l01, hn01, hl01⟩ := read_roads Try.underlying22 Try.underlying55 (by kernel_rfl) (by kernel_rfl) Try.underlying3 rfl rfl rfl rfl t01
  obtain ⟨a02, len02, cap02, rfl⟩ : ∃ a len cap, c02 = .slice a len cap := trod_slice_form Try.underlying25 t02
  obtain ⟨l02, hn02, hl02⟩ := read_ints Try.underlying25 Try.underlying3 (by kernel_rfl) t02
  obtain ⟨a1, len1, cap1, rfl⟩ := okWide_slice Try.underlying25 (hval 1 25 v1 rfl rfl)
  obtain ⟨fu1, hf1⟩ := h1
  obtain ⟨l1, hn1, hl1⟩ := read_ints Try.underlying25 Try.underlying3 (by kernel_rfl) hf1
  clear hA0 hval0
  refine (lawTop W n00 a01 len01 cap01 l01 hl01 hn01 a02 len02 cap02 l02 hl02 hn02 a1 len1 cap1 l1 hl1 hn1).mono fun e W' ⟨he, bel⟩ => ?_
  subst he
  exact ⟨_, rfl, _, _, _, [], _, [], hW', trodAll_mk1 (shut_bool Try.underlying4 _), (trodAll_cons_mk (Below.trod laidOut (by kernel_rfl) (of_decide_eq_true (by kernel_rfl)) k0 bel lt0) (trodAll_cons_mk (Below.trod laidOut (by kernel_rfl) (of_decide_eq_true (by kernel_rfl)) k1 bel lt1) trodAll_mk0)), rfl, bel.frame _, fun h => by cases h⟩

theorem holds : Rows.TopRoadsSaid :=
  OpenClaim.holds_of_wide 9 Try.f9 rfl rfl rfl rfl rfl rfl rfl ⟨rfl, rfl, rfl, rfl, rfl⟩ rfl rfl rfl rfl rfl (by kernel_rfl) Try.func9 (by kernel_rfl)
    (of_decide_eq_true (by kernel_rfl)) (by unfold Func.isWrapper; rw [if_neg (of_decide_eq_false (by kernel_rfl))]; exact ⟨rfl, rfl⟩)
    (fun os started H enc _ => lifted os started H enc)
#print axioms holds
end Go.Proofs.Ytbejgbflipoboaa.topRoads
