/-
  TopMeans is true of the program: for every input that the given row admits, the law returns true and every argument reads behind the call as before. No condition is added.
-/
import Derived.Test.YtgnjaapjaglleaaRows
import Derived.WalkKit
import Derived.ProofKit
import Derived.OpenShut
import Derived.ShutString
import Derived.ChangeOld
import Derived.Below
import Derived.Test.YtgnjaapjaglleaaLTop
namespace Go.Proofs.Ytgnjaapjaglleaa.topMeans
open Go.ChangeShapes Go.WideShapes Go.ChangeAt Go.RowKit Go.Joins
set_option linter.unusedVariables false

theorem own : ownKnob Try.prog.godebug = none := by kernel_rfl
theorem laidOut : laidOutB Try.prog = true := by kernel_rfl
theorem cells32 : Try.prog.cellsOf 32 = 2 := by kernel_rfl
theorem cells53 : Try.prog.cellsOf 53 = 2 := by kernel_rfl
theorem trod_slice_form {H : Type} {enc : TypeId × Value → H} {P : Program} {w : World} {base : Nat} {spare : Nat → Bool} {held : Bool} {fuel : Nat} {t e : TypeId} {v : Value} {x : DataW H × List MemPlace} (ht : P.underlying t = some (.slice e))
    (h : DataW.trod enc P w base spare held fuel t [v] = some x) : ∃ a len cap, v = .slice a len cap := by
  rcases DataW.trod_slice ht h with ⟨h1, _⟩ | ⟨a, len, cap, _, _, _, _, h1, _⟩
  · exact ⟨none, 0, 0, by injection h1⟩
  · exact ⟨some a, len, cap, by injection h1⟩

set_option maxRecDepth 100000 in
theorem lifted (os : Os) (started : os.Started) (H : Type) (enc : TypeId × Value → H) :
    ReturnsInHanded {} Try.checked os 16 .any (Rows.topMeansSpec.pre6 enc Try.prog Try.f16 Rows.topMeansRow.domain false) (Rows.topMeansSpec.post enc Try.prog Try.f16 false true false false) := by
  refine returnsInHanded_of_change (C := Try.checked) own started (by kernel_rfl) Try.func16
    (ChangeSpec.witness6 (enc := enc) (C := Try.checked) false ⟨#[], #[.agg #[.slice none 0 0, .slice none 0 0], .slice none 0 0, .agg #[.int .i64 0, .int .i64 0]], []⟩ 8 (by kernel_rfl) (by kernel_rfl) (by kernel_rfl) (by kernel_rfl)) ?_
  intro W base args ds gs before hval0 hW hcnd _
  have hval : ∀ (j : Nat) t v, Try.f16.params[j]? = some t → args[j]? = some v → Value.okWide Try.prog W .any base t v := hval0
  have hW' := hW
  obtain ⟨p, q, hA0, hV, rfl, hfz, hnd⟩ := hW
  have hA : DataW.TrodAll enc Try.prog W 0 (fun _ => true) true Try.f16.params.toList args.toList ds p := hA0
  rw [Try.params16] at hA hval
  obtain ⟨v0, vs0, d0, ds0, p0, q0, hargs, rfl, rfl, h0, r0⟩ := trodAll_cons hA
  obtain ⟨v1, vs1, d1, ds1, p1, q1, rfl, rfl, rfl, h1, r1⟩ := trodAll_cons r0
  obtain ⟨v2, vs2, d2, ds2, p2, q2, rfl, rfl, rfl, h2, r2⟩ := trodAll_cons r1
  obtain ⟨rfl, rfl, rfl⟩ := trodAll_nil r2
  obtain rfl : args = #[v0, v1, v2] := by cases args; simp_all
  obtain ⟨rfl, rfl⟩ := trodVars_none hV
  have k0 := h0
  have lt0 : ∀ x ∈ p0, x.block < W.heap.size := by obtain ⟨m, hm⟩ := k0; exact DataW.trod_lt m _ _ _ hm
  have k1 := h1
  have lt1 : ∀ x ∈ p1, x.block < W.heap.size := by obtain ⟨m, hm⟩ := k1; exact DataW.trod_lt m _ _ _ hm
  have k2 := h2
  have lt2 : ∀ x ∈ p2, x.block < W.heap.size := by obtain ⟨m, hm⟩ := k2; exact DataW.trod_lt m _ _ _ hm
  obtain ⟨c00, c01, y00, y01, fu0, rfl, rfl, rfl, t00, t01⟩ := open_agg2 Try.underlying32 (by kernel_rfl) cells32 (hval 0 32 v0 rfl rfl) h0
  obtain ⟨a00, len00, cap00, rfl⟩ : ∃ a len cap, c00 = .slice a len cap := trod_slice_form Try.underlying29 t00
  obtain ⟨l00, hn00, hl00⟩ := read_loads Try.underlying29 (by kernel_rfl) ⟨_, Try.underlying22⟩ (fun n a' l' c' y h => read_atoms Try.underlying22 Try.underlying66 (by kernel_rfl) (by kernel_rfl) Try.underlying3 rfl rfl h) t00
  obtain ⟨a01, len01, cap01, rfl⟩ : ∃ a len cap, c01 = .slice a len cap := trod_slice_form Try.underlying30 t01
  obtain ⟨l01, hn01, hl01⟩ := read_ints Try.underlying30 Try.underlying3 (by kernel_rfl) t01
  obtain ⟨a1, len1, cap1, rfl⟩ := okWide_slice Try.underlying22 (hval 1 22 v1 rfl rfl)
  obtain ⟨fu1, hf1⟩ := h1
  obtain ⟨l1, hn1, hl1⟩ := read_atoms Try.underlying22 Try.underlying66 (by kernel_rfl) (by kernel_rfl) Try.underlying3 rfl rfl hf1
  obtain ⟨c20, c21, y20, y21, fu2, rfl, rfl, rfl, t20, t21⟩ := open_agg2 Try.underlying53 (by kernel_rfl) cells53 (hval 2 53 v2 rfl rfl) h2
  obtain ⟨n20, e20, _, _⟩ := DataW.trod_int Try.underlying3 t20
  simp only [List.cons.injEq, and_true] at e20
  subst e20
  obtain ⟨n21, e21, _, _⟩ := DataW.trod_int Try.underlying3 t21
  simp only [List.cons.injEq, and_true] at e21
  subst e21
  clear hA0 hval0
  refine (lawTop W a00 len00 cap00 l00 hl00 hn00 (slice_len Try.underlying29 t00) a01 len01 cap01 l01 hl01 hn01 a1 len1 cap1 l1 hl1 hn1 n20 n21).mono fun e W' ⟨he, bel⟩ => ?_
  subst he
  exact ⟨_, rfl, _, _, _, [], _, [], hW', trodAll_mk1 (shut_bool Try.underlying4 _), (trodAll_cons_mk (Below.trod laidOut (by kernel_rfl) (of_decide_eq_true (by kernel_rfl)) k0 bel lt0) (trodAll_cons_mk (Below.trod laidOut (by kernel_rfl) (of_decide_eq_true (by kernel_rfl)) k1 bel lt1) (trodAll_cons_mk (Below.trod laidOut (by kernel_rfl) (of_decide_eq_true (by kernel_rfl)) k2 bel lt2) trodAll_mk0))), rfl, bel.frame _, fun h => by cases h⟩

theorem holds : Rows.TopMeansSaid :=
  OpenClaim.holds_of_wide 16 Try.f16 rfl rfl rfl rfl rfl rfl rfl ⟨rfl, rfl, rfl, rfl, rfl⟩ rfl rfl rfl rfl rfl (by kernel_rfl) Try.func16 (by kernel_rfl)
    (of_decide_eq_true (by kernel_rfl)) (by unfold Func.isWrapper; rw [if_neg (of_decide_eq_false (by kernel_rfl))]; exact ⟨rfl, rfl⟩)
    (fun os started H enc _ => lifted os started H enc)
#print axioms holds
end Go.Proofs.Ytgnjaapjaglleaa.topMeans
