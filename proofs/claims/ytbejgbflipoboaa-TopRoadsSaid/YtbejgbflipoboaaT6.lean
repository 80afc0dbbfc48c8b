/- Contracts of roads: steps and their ends. -/
import Derived.Test.YtbejgbflipoboaaP2
import Derived.Test.YtbejgbflipoboaaP1
import Derived.Test.YtbejgbflipoboaaT5
namespace Go.Proofs.Ytbejgbflipoboaa
open Go.RowKit
attribute [local go_sem] GW.cell
theorem f79_c (s : Int) (n : Nat) (hs : StepIn n s) (hn : n ≤ 1000) (w : World) :
    Calls Try.prog 79 #[.int .i64 s] w fun e w' => e = .returned (.int .i64 ((stepNo s : Nat) : Int)) ∧ w = w' := by
  have h1 := hs.1
  have h2 := hs.2
  have HR := Lib.hid (stepNo_cast hs)
  clear hs
  go_enter Try.func79, Try.ntmps79
  go_wp2_with fail
  all_goals (go_ret; exact ⟨ret_int (by have := HR.out; omega), rfl⟩)
theorem run_alloc_road (ρ : Operand → Value) (W : World) (d : Option Tmp) (ty : TypeId) (pos : String) (af : Array Edge) : (execOp ρ ⟨d, .alloc 55, ty, pos, af, none⟩).run Try.prog W = .ok (.value (ptrV W.heap.size)) (W.alloc (.cells #[.int .i64 0, .int .i64 0, .int .i64 0, .int .i64 0] 55)) := by
  simp [go_sem, ptrV]
/-- a road is stored into a block of the call's own -/
theorem wpList_store_road {ops : Array Oper} {Q : Exit → Act → World → Prop} {rest : List Oper} {a : Act} {W : World} {t u : Tmp} {ty : TypeId} {pos : String} {af : Array Edge} (B : Nat) {v0 v1 v2 v3 : Value} (n0 n1 n2 n3 : Int)
    (hq : BlkC W B #[v0, v1, v2, v3] 55) (h1 : a.tmps.getD t undef = .pointer (some ⟨B, 0, none⟩)) (h2 : a.tmps.getD u undef = .agg #[.int .i64 n0, .int .i64 n1, .int .i64 n2, .int .i64 n3])
    (h : ∀ W', BlkC W' B #[.int .i64 n0, .int .i64 n1, .int .i64 n2, .int .i64 n3] 55 → (∀ W0, Ext W0 W → W0.heap.size ≤ B → Ext W0 W') → wpList Try.prog ops Q rest a W') :
    wpList Try.prog ops Q (⟨none, .store 55 (.tmp t) (.tmp u), ty, pos, af, none⟩ :: rest) a W := by
  have h' := h ((((W.setCell ⟨B, 0, none⟩ (.int .i64 n0)).setCell ⟨B, 1, none⟩ (.int .i64 n1)).setCell ⟨B, 2, none⟩ (.int .i64 n2)).setCell ⟨B, 3, none⟩ (.int .i64 n3)) (by
      have := (((hq.set 0 (.int .i64 n0)).set 1 (.int .i64 n1)).set 2 (.int .i64 n2)).set 3 (.int .i64 n3)
      simpa using this) (fun W0 hE hB => (((hE.setCell (p := ⟨B, 0, none⟩) hB _).setCell (p := ⟨B, 1, none⟩) hB _).setCell (p := ⟨B, 2, none⟩) hB _).setCell (p := ⟨B, 3, none⟩) hB _)
  have q0 := hq.cellv 0 (v := v0) rfl
  have q1 := (hq.set 0 (.int .i64 n0)).cellv 1 (v := v1) rfl
  have q2 := ((hq.set 0 (.int .i64 n0)).set 1 (.int .i64 n1)).cellv 2 (v := v2) rfl
  have q3 := (((hq.set 0 (.int .i64 n0)).set 1 (.int .i64 n1)).set 2 (.int .i64 n2)).cellv 3 (v := v3) rfl
  have f0 := fun i => hq.frozen i
  have f1 := fun i => (hq.set 0 (.int .i64 n0)).frozen i
  have f2 := fun i => ((hq.set 0 (.int .i64 n0)).set 1 (.int .i64 n1)).frozen i
  have f3 := fun i => (((hq.set 0 (.int .i64 n0)).set 1 (.int .i64 n1)).set 2 (.int .i64 n2)).frozen i
  clear h hq
  simp [wpList, go_sem, Act.eval, h1, h2, q0, q1, q2, q3, f0, f1, f2, f3]
  exact .inl h'
theorem ret_iii {x x' y y' z z' : Int} (h1 : x = x') (h2 : y = y') (h3 : z = z') : Ending.returned (.tuple #[.int .i64 x, .int .i64 y, .int .i64 z]) = .returned (.tuple #[.int .i64 x', .int .i64 y', .int .i64 z']) := by rw [h1, h2, h3]
set_option maxRecDepth 20000 in
set_option maxHeartbeats 8000000 in
theorem f73_c (s : Int) (N : Int) (a : Option Addr) (n c : Nat) (R : List Road) (w : World) (hl : Roads w a R) (hn : R.length = n) (hok : NetOk N R) (hs : StepIn R.length s) :
    Calls Try.prog 73 #[.int .i64 s, .agg #[.int .i64 N, .slice a n c]] w fun e w' => e = .returned (.tuple #[.int .i64 (stFr R s), .int .i64 (stTo R s), .int .i64 (stLn R s)]) ∧ Ext w w' := by
  subst hn
  have h12 := hok.r12
  have hk := stepNo_lt hs
  have H79 := Lib.hid (fun W => f79_c s R.length hs (by omega) W)
  have hln := hok.ln _ hk
  have hE0 := ext_alloc w (.cells #[.int .i64 N, .slice a R.length c] 24)
  have HB := Lib.hid (BlkC.new w #[.int .i64 N, .slice a R.length c] 24)
  have hz := HB.out.lt
  obtain ⟨b, off, rfl, hb, c1, c2, c3, c4⟩ := hl _ hk
  have HF : Hid (stFr R s = if s < 0 then R[stepNo s].to else R[stepNo s].fr) := Lib.hid (by unfold stFr; rw [rdK_at hk])
  have HT : Hid (stTo R s = if s < 0 then R[stepNo s].fr else R[stepNo s].to) := Lib.hid (by unfold stTo; rw [rdK_at hk])
  have HL : Hid (stLn R s = if s < 0 then -R[stepNo s].ln else R[stepNo s].ln) := Lib.hid (by unfold stLn; rw [rdK_at hk])
  generalize R[stepNo s].fr = fr at *
  generalize R[stepNo s].to = to at *
  generalize R[stepNo s].ln = ln at *
  generalize R[stepNo s].wd = wd at *
  clear hs hl
  generalize stepNo s = k at *
  generalize stFr R s = X at *
  generalize stTo R s = Y at *
  generalize stLn R s = Z at *
  go_enter Try.func73, Try.ntmps73
  go_wp2_with fail
  generalize (w.alloc (.cells #[.int .i64 N, .slice (some ⟨b, off, none⟩) R.length c] 24)) = w0 at *
  refine wp_region_float (A := ?Au) 29 [true, true, true, true, true, true, false] [⟨6, 7, #[.int .i64 0, .int .i64 0, .int .i64 0, .int .i64 0], 55⟩] (by kernel_rfl) (by kernel_rfl) rfl ?hmku ?hwalku ?htailu
  case hmku =>
    intro m hm o ho ρ W
    obtain rfl := List.mem_singleton.1 hm
    obtain rfl := Option.some.inj ho
    exact run_alloc_road ρ W _ _ _ _
  case hwalku =>
    intro W1 hW1
    have hE1 := hE0.trans' hW1
    have g1 := (HB.out.ext hW1).cellv 1 (v := .slice (some ⟨b, off, none⟩) R.length c) rfl
    have hzr := (HB.out.ext hW1).lt
    have d1 := (hE1.cell' hb).trans c1
    have d2 := (hE1.cell' hb).trans c2
    have d3 := (hE1.cell' hb).trans c3
    have d4 := (hE1.cell' hb).trans c4
    have hbr := Nat.lt_of_lt_of_le hb hE1.size
    simp only [pickQ]
    repeat (go_big_quiet_step ((go_at_call 79; exact quiet_same (H79.out _))))
    refine wpQuiet_nil ?_
    rfl
  case htailu =>
    intro bs W6 hW6 hmade
    obtain ⟨X6, hX6, hX7, hbs'⟩ := hmade _ (List.mem_singleton.2 rfl)
    have hbs : bs 6 = X6.heap.size := hbs'
    clear hbs' hmade
    simp only [putAll, ptrV, List.drop_succ_cons, List.drop_zero, List.length_cons, List.length_nil, Nat.reduceAdd]
    generalize bs 6 = B at hbs ⊢
    have hBs : w0.heap.size ≤ B := by rw [hbs]; exact hX6.size
    have hP6 : BlkC W6 B #[.int .i64 0, .int .i64 0, .int .i64 0, .int .i64 0] 55 := by rw [hbs]; exact (BlkC.new X6 _ 55).ext hX7
    clear hbs hX6 hX7
    refine wpList_store_road B fr to ln wd hP6 rfl rfl ?_
    intro W7 hP7 hW7
    have hX7 := hW7 w0 hW6 hBs
    have hE7 := hE0.trans' hX7
    have hlt7 := hP7.lt
    have p0 := hP7.cellv 0 (v := .int .i64 fr) rfl
    have p1 := hP7.cellv 1 (v := .int .i64 to) rfl
    have p2 := hP7.cellv 2 (v := .int .i64 ln) rfl
    clear hW7 hP6 hP7 c1 c2 c3 c4 hW6
    by_cases hneg : s < 0
    · rw [if_pos hneg] at HF HT HL
      have hd : decide (s < 0) = true := decide_eq_true hneg
      clear hneg
      go_wp2_with fail
      refine wp_region_ext (by kernel_rfl) (by kernel_rfl) ?_
      repeat (go_big_quiet_step (fail))
      refine wpQuiet_nil ?_
      intro w8 hX8
      go_wp2_with fail
      refine bodyPost_ret (v := .tuple #[.int .i64 to, .int .i64 fr, .int .i64 (-ln)]) (by simp [results, Try.results73, go_sem]) rfl ⟨?_, hE7.trans' hX8⟩
      exact ret_iii HF.out.symm HT.out.symm HL.out.symm
    · rw [if_neg hneg] at HF HT HL
      have hd : decide (s < 0) = false := decide_eq_false hneg
      clear hneg
      go_wp2_with fail
      refine wp_region_ext (by kernel_rfl) (by kernel_rfl) ?_
      repeat (go_big_quiet_step (fail))
      refine wpQuiet_nil ?_
      intro w8 hX8
      go_wp2_with fail
      refine bodyPost_ret (v := .tuple #[.int .i64 fr, .int .i64 to, .int .i64 ln]) (by simp [results, Try.results73, go_sem]) rfl ⟨?_, hE7.trans' hX8⟩
      exact ret_iii HF.out.symm HT.out.symm HL.out.symm
end Go.Proofs.Ytbejgbflipoboaa
