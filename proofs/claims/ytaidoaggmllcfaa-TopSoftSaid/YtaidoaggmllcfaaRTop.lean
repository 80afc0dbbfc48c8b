/-
  TopSoft is true of the program: for every input that the given row admits, the law returns true and every argument reads behind the call as before. No condition is added.
-/
import Derived.Test.YtaidoaggmllcfaaRows
import Derived.WalkKit
import Derived.ProofKit
import Derived.OpenShut
import Derived.ShutString
import Derived.ChangeOld
import Derived.Below
import Derived.Test.YtaidoaggmllcfaaLTop
namespace Go.Proofs.Ytaidoaggmllcfaa.topSoft
open Go.ChangeShapes Go.WideShapes Go.ChangeAt Go.RowKit Go.Joins Go.Deep
set_option linter.unusedVariables false

theorem own : ownKnob Try.prog.godebug = none := by kernel_rfl
theorem laidOut : laidOutB Try.prog = true := by kernel_rfl
theorem cells51 : Try.prog.cellsOf 51 = 3 := by kernel_rfl
theorem cells53 : Try.prog.cellsOf 53 = 3 := by kernel_rfl
theorem cells55 : Try.prog.cellsOf 55 = 2 := by kernel_rfl
theorem trod_slice_form {H : Type} {enc : TypeId × Value → H} {P : Program} {w : World} {base : Nat} {spare : Nat → Bool} {held : Bool} {fuel : Nat} {t e : TypeId} {v : Value} {x : DataW H × List MemPlace} (ht : P.underlying t = some (.slice e))
    (h : DataW.trod enc P w base spare held fuel t [v] = some x) : ∃ a len cap, v = .slice a len cap := by
  rcases DataW.trod_slice ht h with ⟨h1, _⟩ | ⟨a, len, cap, _, _, _, _, h1, _⟩
  · exact ⟨none, 0, 0, by injection h1⟩
  · exact ⟨some a, len, cap, by injection h1⟩

set_option maxRecDepth 100000 in
theorem lifted (os : Os) (started : os.Started) (H : Type) (enc : TypeId × Value → H) :
    ReturnsInHanded {} Try.checked os 7 .any (Rows.topSoftSpec.pre6 enc Try.prog Try.f7 Rows.topSoftRow.domain false) (Rows.topSoftSpec.post enc Try.prog Try.f7 false true false false) := by
  refine returnsInHanded_of_change (C := Try.checked) own started (by kernel_rfl) Try.func7
    (ChangeSpec.witness6 (enc := enc) (C := Try.checked) false ⟨#[], #[.agg #[.slice none 0 0, .slice none 0 0, .slice none 0 0], .agg #[.slice none 0 0, .int .i64 0, .int .i64 0], .agg #[.slice none 0 0, .slice none 0 0]], []⟩ 8 (by kernel_rfl) (by kernel_rfl) (by kernel_rfl) (by kernel_rfl)) ?_
  intro W base args ds gs before hval0 hW hcnd _
  have hval : ∀ (j : Nat) t v, Try.f7.params[j]? = some t → args[j]? = some v → Value.okWide Try.prog W .any base t v := hval0
  have hW' := hW
  obtain ⟨p, q, hA0, hV, rfl, hfz, hnd⟩ := hW
  have hA : DataW.TrodAll enc Try.prog W 0 (fun _ => true) true Try.f7.params.toList args.toList ds p := hA0
  rw [Try.params7] at hA hval
  obtain ⟨v0, vs0, d0, ds0, p0, q0, hargs, rfl, rfl, h0, r0⟩ := trodAll_cons hA
  obtain ⟨v1, vs1, d1, ds1, p1, q1, rfl, rfl, rfl, h1, r1⟩ := trodAll_cons r0
  obtain ⟨v2, vs2, d2, ds2, p2, q2, rfl, rfl, rfl, h2, r2⟩ := trodAll_cons r1
  obtain ⟨rfl, rfl, rfl⟩ := trodAll_nil r2
  obtain rfl : args = #[v0, v1, v2] := by cases args; simp_all
  obtain ⟨rfl, rfl⟩ := trodVars_none hV
  have k0 := h0
  have lt0 : ∀ x ∈ p0, x.block < W.heap.size := by obtain ⟨m, hm⟩ := k0; exact DataW.trod_lt m _ _ _ hm
  have k1 := h1
  have lt1 : ∀ x ∈ p1, x.block < W.heap.size := by obtain ⟨m, hm⟩ := k1; exact DataW.trod_lt m _ _ _ hm
  have k2 := h2
  have lt2 : ∀ x ∈ p2, x.block < W.heap.size := by obtain ⟨m, hm⟩ := k2; exact DataW.trod_lt m _ _ _ hm
  obtain ⟨c00, c01, c02, y00, y01, y02, fu0, rfl, rfl, rfl, t00, t01, t02⟩ := open_agg3 Try.underlying51 (by kernel_rfl) cells51 (hval 0 51 v0 rfl rfl) h0
  obtain ⟨a00, len00, cap00, rfl⟩ : ∃ a len cap, c00 = .slice a len cap := trod_slice_form Try.underlying31 t00
  obtain ⟨l00, hn00, hl00⟩ := read_ints Try.underlying31 Try.underlying3 (by kernel_rfl) t00
  obtain ⟨a01, len01, cap01, rfl⟩ : ∃ a len cap, c01 = .slice a len cap := trod_slice_form Try.underlying31 t01
  obtain ⟨l01, hn01, hl01⟩ := read_ints Try.underlying31 Try.underlying3 (by kernel_rfl) t01
  obtain ⟨a02, len02, cap02, rfl⟩ : ∃ a len cap, c02 = .slice a len cap := trod_slice_form Try.underlying22 t02
  obtain ⟨l02, hn02, hl02⟩ := read_table Try.underlying22 (by kernel_rfl) ⟨_, Try.underlying31⟩ (fun n a' l' c' y h => read_ints Try.underlying31 Try.underlying3 (by kernel_rfl) h) t02
  obtain ⟨c10, c11, c12, y10, y11, y12, fu1, rfl, rfl, rfl, t10, t11, t12⟩ := open_agg3 Try.underlying53 (by kernel_rfl) cells53 (hval 1 53 v1 rfl rfl) h1
  obtain ⟨a10, len10, cap10, rfl⟩ : ∃ a len cap, c10 = .slice a len cap := trod_slice_form Try.underlying22 t10
  obtain ⟨l10, hn10, hl10⟩ := read_table Try.underlying22 (by kernel_rfl) ⟨_, Try.underlying31⟩ (fun n a' l' c' y h => read_ints Try.underlying31 Try.underlying3 (by kernel_rfl) h) t10
  obtain ⟨n11, e11, _, _⟩ := DataW.trod_int Try.underlying3 t11
  simp only [List.cons.injEq, and_true] at e11
  subst e11
  obtain ⟨n12, e12, _, _⟩ := DataW.trod_int Try.underlying3 t12
  simp only [List.cons.injEq, and_true] at e12
  subst e12
  obtain ⟨c20, c21, y20, y21, fu2, rfl, rfl, rfl, t20, t21⟩ := open_agg2 Try.underlying55 (by kernel_rfl) cells55 (hval 2 55 v2 rfl rfl) h2
  obtain ⟨a20, len20, cap20, rfl⟩ : ∃ a len cap, c20 = .slice a len cap := trod_slice_form Try.underlying31 t20
  obtain ⟨l20, hn20, hl20⟩ := read_ints Try.underlying31 Try.underlying3 (by kernel_rfl) t20
  obtain ⟨a21, len21, cap21, rfl⟩ : ∃ a len cap, c21 = .slice a len cap := trod_slice_form Try.underlying31 t21
  obtain ⟨l21, hn21, hl21⟩ := read_ints Try.underlying31 Try.underlying3 (by kernel_rfl) t21
  clear hA0 hval0
  refine (softs_top W a00 len00 cap00 l00 hl00 hn00 a01 len01 cap01 l01 hl01 hn01 a02 len02 cap02 l02 hl02 hn02 (slice_len Try.underlying22 t02) a10 len10 cap10 l10 hl10 hn10 (slice_len Try.underlying22 t10) n11 n12 a20 len20 cap20 l20 hl20 hn20 a21 len21 cap21 l21 hl21 hn21).mono fun e W' ⟨he, bel⟩ => ?_
  subst he
  exact ⟨_, rfl, _, _, _, [], _, [], hW', trodAll_mk1 (shut_bool Try.underlying4 _), (trodAll_cons_mk (Below.trod laidOut (by kernel_rfl) (of_decide_eq_true (by kernel_rfl)) k0 bel lt0) (trodAll_cons_mk (Below.trod laidOut (by kernel_rfl) (of_decide_eq_true (by kernel_rfl)) k1 bel lt1) (trodAll_cons_mk (Below.trod laidOut (by kernel_rfl) (of_decide_eq_true (by kernel_rfl)) k2 bel lt2) trodAll_mk0))), rfl, bel.frame _, fun h => by cases h⟩

theorem holds : Rows.TopSoftSaid :=
  OpenClaim.holds_of_wide 7 Try.f7 rfl rfl rfl rfl rfl rfl rfl ⟨rfl, rfl, rfl, rfl, rfl⟩ rfl rfl rfl rfl rfl (by kernel_rfl) Try.func7 (by kernel_rfl)
    (of_decide_eq_true (by kernel_rfl)) (by unfold Func.isWrapper; rw [if_neg (of_decide_eq_false (by kernel_rfl))]; exact ⟨rfl, rfl⟩)
    (fun os started H enc _ => lifted os started H enc)
#print axioms holds
end Go.Proofs.Ytaidoaggmllcfaa.topSoft
