/- Contracts of roads: the reference's step. -/
import Derived.Test.YtbejgbflipoboaaT26
import Derived.Test.YtbejgbflipoboaaP3
namespace Go.Proofs.Ytbejgbflipoboaa
open Go.RowKit
attribute [local go_sem] GW.cell
/-- an arc is stored into a block of the call's own -/
theorem wpList_store_arc {ops : Array Oper} {Q : Exit → Act → World → Prop} {rest : List Oper} {a : Act} {W : World} {t u : Tmp} {ty : TypeId} {pos : String} {af : Array Edge} (B : Nat) {v0 v1 v2 v3 v4 : Value} (n0 n1 n2 n3 n4 : Int)
    (hq : BlkC W B #[v0, v1, v2, v3, v4] 84) (h1 : a.tmps.getD t undef = .pointer (some ⟨B, 0, none⟩)) (h2 : a.tmps.getD u undef = .agg #[.int .i64 n0, .int .i64 n1, .int .i64 n2, .int .i64 n3, .int .i64 n4])
    (h : ∀ W', BlkC W' B #[.int .i64 n0, .int .i64 n1, .int .i64 n2, .int .i64 n3, .int .i64 n4] 84 → (∀ W0, Ext W0 W → W0.heap.size ≤ B → Ext W0 W') → (∀ B' cs T, BlkC W B' cs T → B' ≠ B → BlkC W' B' cs T) → wpList Try.prog ops Q rest a W') :
    wpList Try.prog ops Q (⟨none, .store 84 (.tmp t) (.tmp u), ty, pos, af, none⟩ :: rest) a W := by
  have h' := h (((((W.setCell ⟨B, 0, none⟩ (.int .i64 n0)).setCell ⟨B, 1, none⟩ (.int .i64 n1)).setCell ⟨B, 2, none⟩ (.int .i64 n2)).setCell ⟨B, 3, none⟩ (.int .i64 n3)).setCell ⟨B, 4, none⟩ (.int .i64 n4)) (by
      have := ((((hq.set 0 (.int .i64 n0)).set 1 (.int .i64 n1)).set 2 (.int .i64 n2)).set 3 (.int .i64 n3)).set 4 (.int .i64 n4)
      simpa using this) (fun W0 hE hB => ((((hE.setCell (p := ⟨B, 0, none⟩) hB _).setCell (p := ⟨B, 1, none⟩) hB _).setCell (p := ⟨B, 2, none⟩) hB _).setCell (p := ⟨B, 3, none⟩) hB _).setCell (p := ⟨B, 4, none⟩) hB _)
      (fun B' cs T hb hne => ((((hb.other hne 0 _).other hne 1 _).other hne 2 _).other hne 3 _).other hne 4 _)
  have q0 := hq.cellv 0 (v := v0) rfl
  have q1 := (hq.set 0 (.int .i64 n0)).cellv 1 (v := v1) rfl
  have q2 := ((hq.set 0 (.int .i64 n0)).set 1 (.int .i64 n1)).cellv 2 (v := v2) rfl
  have q3 := (((hq.set 0 (.int .i64 n0)).set 1 (.int .i64 n1)).set 2 (.int .i64 n2)).cellv 3 (v := v3) rfl
  have q4 := ((((hq.set 0 (.int .i64 n0)).set 1 (.int .i64 n1)).set 2 (.int .i64 n2)).set 3 (.int .i64 n3)).cellv 4 (v := v4) rfl
  have f0 := fun i => hq.frozen i
  have f1 := fun i => (hq.set 0 (.int .i64 n0)).frozen i
  have f2 := fun i => ((hq.set 0 (.int .i64 n0)).set 1 (.int .i64 n1)).frozen i
  have f3 := fun i => (((hq.set 0 (.int .i64 n0)).set 1 (.int .i64 n1)).set 2 (.int .i64 n2)).frozen i
  have f4 := fun i => ((((hq.set 0 (.int .i64 n0)).set 1 (.int .i64 n1)).set 2 (.int .i64 n2)).set 3 (.int .i64 n3)).frozen i
  clear h hq
  simp [wpList, go_sem, Act.eval, h1, h2, q0, q1, q2, q3, q4, f0, f1, f2, f3, f4]
  exact .inl h'
theorem arc_put {W : World} {B : Nat} {v0 v1 v2 v3 v4 : Value} (h : BlkC W B #[v0, v1, v2, v3, v4] 84) (u0 u1 u2 u3 u4 : Value) : BlkC (World.drew (((((W.setCell ⟨B, 0, none⟩ u0).setCell ⟨B, 1, none⟩ u1).setCell ⟨B, 2, none⟩ u2).setCell ⟨B, 3, none⟩ u3).setCell ⟨B, 4, none⟩ u4)) B #[u0, u1, u2, u3, u4] 84 ∧ ∀ w, Ext w W → w.heap.size ≤ B → Ext w (World.drew (((((W.setCell ⟨B, 0, none⟩ u0).setCell ⟨B, 1, none⟩ u1).setCell ⟨B, 2, none⟩ u2).setCell ⟨B, 3, none⟩ u3).setCell ⟨B, 4, none⟩ u4)) := by
  refine ⟨?_, fun w hX hB => ?_⟩
  · have := ((((h.set 0 u0).set 1 u1).set 2 u2).set 3 u3).set 4 u4
    have h2 : BlkC (((((W.setCell ⟨B, 0, none⟩ u0).setCell ⟨B, 1, none⟩ u1).setCell ⟨B, 2, none⟩ u2).setCell ⟨B, 3, none⟩ u3).setCell ⟨B, 4, none⟩ u4) B #[u0, u1, u2, u3, u4] 84 := by simpa using this
    exact h2.ext (ext_drew _)
  · exact Ext.trans' (((((hX.setCell (p := ⟨B, 0, none⟩) hB _).setCell (p := ⟨B, 1, none⟩) hB _).setCell (p := ⟨B, 2, none⟩) hB _).setCell (p := ⟨B, 3, none⟩) hB _).setCell (p := ⟨B, 4, none⟩) hB _) (ext_drew _)
set_option maxRecDepth 20000 in
set_option maxHeartbeats 8000000 in
theorem f84_c (s : Int) (N : Int) (a : Option Addr) (n c : Nat) (R : List Road) (a2 : Option Addr) (n2 c2 : Nat) (f : List Int) (w : World) (hl : Roads w a R) (hn : R.length = n) (hx : Ints w a2 f) (hn2 : f.length = n2) (hle : f.length = R.length) (hok : NetOk N R) (hs : StepIn R.length s) :
    Calls Try.prog 84 #[.agg #[.int .i64 N, .slice a n c], .slice a2 n2 c2, .int .i64 s] w fun e w' => e = .returned (.tuple #[.agg #[.int .i64 (stFr R s), .int .i64 (stTo R s), .int .i64 (stLn R s), .int .i64 ((stepNo s : Nat) : Int), .int .i64 (sg s)], .bool (stOk R f s)]) ∧ Ext w w' := by
  subst hn hn2
  have h12 := hok.r12
  have hk := stepNo_lt hs
  have hkc := stepNo_cast hs
  have hs1 := hs.1
  have hs2 := hs.2
  have hln := hok.ln _ hk
  have hltx : stepNo s < f.length := by omega
  have HF : Hid (stFr R s = if s < 0 then R[stepNo s].to else R[stepNo s].fr) := Lib.hid (by unfold stFr; rw [rdK_at hk])
  have HT : Hid (stTo R s = if s < 0 then R[stepNo s].fr else R[stepNo s].to) := Lib.hid (by unfold stTo; rw [rdK_at hk])
  have HL : Hid (stLn R s = if s < 0 then -R[stepNo s].ln else R[stepNo s].ln) := Lib.hid (by unfold stLn; rw [rdK_at hk])
  have HG : Hid (sg s = if s < 0 then -1 else 1) := Lib.hid rfl
  have HO : Hid (stOk R f s = if s < 0 then decide (0 < gi f (stepNo s)) else decide (gi f (stepNo s) < R[stepNo s].wd)) := Lib.hid (by unfold stOk; rw [rdK_at hk])
  obtain ⟨b, off, rfl, hb, c1, c2, c3, c4⟩ := hl _ hk
  obtain ⟨b2, o2, rfl, hb2, hc2⟩ := hx _ hltx
  rw [gi_def] at hc2
  generalize R[stepNo s].fr = fr at *
  generalize R[stepNo s].to = tt at *
  generalize R[stepNo s].ln = ln at *
  generalize R[stepNo s].wd = wd at *
  generalize gi f (stepNo s) = fv at *
  clear hs hl hx hok hle
  generalize stepNo s = k at *
  generalize stFr R s = X at *
  generalize stTo R s = Y at *
  generalize stLn R s = Z at *
  generalize stOk R f s = O at *
  generalize sg s = G at *
  have hmk : max s (-s) - 1 = (k : Int) := hkc.symm
  have hE0 := (ext_alloc w (.cells #[.int .i64 N, .slice (some ⟨b, off, none⟩) R.length c] 24)).trans' (ext_alloc _ (.cells #[.int .i64 0, .int .i64 0, .int .i64 0, .int .i64 0, .int .i64 0] 84))
  have H24 := Lib.hid ((BlkC.new w #[.int .i64 N, .slice (some ⟨b, off, none⟩) R.length c] 24).alloc (.cells #[.int .i64 0, .int .i64 0, .int .i64 0, .int .i64 0, .int .i64 0] 84))
  have H84 : Hid (BlkC ((w.alloc (.cells #[.int .i64 N, .slice (some ⟨b, off, none⟩) R.length c] 24)).alloc (.cells #[.int .i64 0, .int .i64 0, .int .i64 0, .int .i64 0, .int .i64 0] 84)) (w.heap.size + 1) #[.int .i64 0, .int .i64 0, .int .i64 0, .int .i64 0, .int .i64 0] 84) := Lib.hid (by
    have := BlkC.new (w.alloc (.cells #[.int .i64 N, .slice (some ⟨b, off, none⟩) R.length c] 24)) #[.int .i64 0, .int .i64 0, .int .i64 0, .int .i64 0, .int .i64 0] 84
    simpa using this)
  by_cases hp : 0 < s
  · have hd : decide (0 < s) = true := decide_eq_true hp
    have hng : ¬ s < 0 := by omega
    rw [if_neg hng] at HF HT HL HG HO
    clear hng hp hkc
    go_enter Try.func84, Try.ntmps84
    go_upto_region 2 with fail
    rw [show (if s < -s then -s else s) = (k : Int) + 1 by split <;> omega, show (k : Int) + 1 - 1 = k by omega]
    generalize ((w.alloc (.cells #[.int .i64 N, .slice (some ⟨b, off, none⟩) R.length c] 24)).alloc (.cells #[.int .i64 0, .int .i64 0, .int .i64 0, .int .i64 0, .int .i64 0] 84)) = w0 at *
    have d1 := (hE0.cell' hb).trans c1
    have d2 := (hE0.cell' hb).trans c2
    have d3 := (hE0.cell' hb).trans c3
    have d4 := (hE0.cell' hb).trans c4
    have e2 := (hE0.cell' hb2).trans hc2
    have hbw := Nat.lt_of_lt_of_le hb hE0.size
    have hbw2 := Nat.lt_of_lt_of_le hb2 hE0.size
    have hz1 := H84.out.lt
    have hz2 := H24.out.lt
    have g1 := H24.out.cellv 1 (v := .slice (some ⟨b, off, none⟩) R.length c) rfl
    have hE1 := ext_alloc w0 (.cells #[.int .i64 fr, .int .i64 tt, .int .i64 ln, .int .i64 wd] 55)
    have H55 := Lib.hid (BlkC.new w0 #[.int .i64 fr, .int .i64 tt, .int .i64 ln, .int .i64 wd] 55)
    go_wp2_with fail
    generalize (w0.alloc (.cells #[.int .i64 fr, .int .i64 tt, .int .i64 ln, .int .i64 wd] 55)) = w1 at *
    have p0 := H55.out.cellv 0 (v := .int .i64 fr) rfl
    have p1 := H55.out.cellv 1 (v := .int .i64 tt) rfl
    have p2 := H55.out.cellv 2 (v := .int .i64 ln) rfl
    have p3 := H55.out.cellv 3 (v := .int .i64 wd) rfl
    have p5 := H55.out.lt
    have e3 := (hE1.cell' hbw2).trans e2
    have hbw3 := Nat.lt_of_lt_of_le hbw2 hE1.size
    have H841 := Lib.hid (H84.out.ext hE1)
    have r0 := H841.out.cellv 0 (v := .int .i64 0) rfl
    have r1 := H841.out.cellv 1 (v := .int .i64 0) rfl
    have r2 := H841.out.cellv 2 (v := .int .i64 0) rfl
    have r3 := H841.out.cellv 3 (v := .int .i64 0) rfl
    have r4 := H841.out.cellv 4 (v := .int .i64 0) rfl
    have f0 := H841.out.frozen 0
    have f1 := H841.out.frozen 1
    have f2 := H841.out.frozen 2
    have f3 := H841.out.frozen 3
    have f4 := H841.out.frozen 4
    have hX1 := hE0.trans' hE1
    clear g1 d1 d2 d3 d4 c1 c2 c3 c4 e2 hc2
    generalize hB : w.heap.size + 1 = B at *
    generalize hC : w0.heap.size = C at *
    have hBC : B < C := by omega
    have hbB : b2 < B := by omega
    go_region
    have hwB : w.heap.size ≤ B := by omega
    obtain ⟨H3', hX3'⟩ := arc_put H841.out (.int .i64 (fr)) (.int .i64 (tt)) (.int .i64 (ln)) (.int .i64 (k : Int)) (.int .i64 (1))
    have hX3 := hX3' w hX1 hwB
    have H3 := Lib.hid H3'
    clear H3' hX3'
    clear r0 r1 r2 r3 r4 f0 f1 f2 f3 f4 p0 p1 p2 p3
    generalize World.drew (((((w1.setCell ⟨B, 0, none⟩ (.int .i64 (fr))).setCell ⟨B, 1, none⟩ (.int .i64 (tt))).setCell ⟨B, 2, none⟩ (.int .i64 (ln))).setCell ⟨B, 3, none⟩ (.int .i64 (k : Int))).setCell ⟨B, 4, none⟩ (.int .i64 (1))) = w3 at *
    have q0 := H3.out.cellv 0 (v := .int .i64 (fr)) rfl
    have q1 := H3.out.cellv 1 (v := .int .i64 (tt)) rfl
    have q2 := H3.out.cellv 2 (v := .int .i64 (ln)) rfl
    have q3 := H3.out.cellv 3 (v := .int .i64 (k : Int)) rfl
    have q4 := H3.out.cellv 4 (v := .int .i64 (1)) rfl
    have hlt3 := H3.out.lt
    go_wp2_with fail
    refine bodyPost_ret (v := .tuple #[.agg #[.int .i64 (fr), .int .i64 (tt), .int .i64 (ln), .int .i64 (k : Int), .int .i64 (1)], .bool (decide (fv < wd))]) (by simp [results, Try.results84, go_sem, q0, q1, q2, q3, q4]) rfl ⟨?_, hX3⟩
    rw [HF.out, HT.out, HL.out, HG.out, HO.out]
  · have hd : decide (0 < s) = false := decide_eq_false hp
    have hng : s < 0 := by omega
    rw [if_pos hng] at HF HT HL HG HO
    clear hng hp hkc
    go_enter Try.func84, Try.ntmps84
    go_upto_region 2 with fail
    rw [show (if s < -s then -s else s) = (k : Int) + 1 by split <;> omega, show (k : Int) + 1 - 1 = k by omega]
    generalize ((w.alloc (.cells #[.int .i64 N, .slice (some ⟨b, off, none⟩) R.length c] 24)).alloc (.cells #[.int .i64 0, .int .i64 0, .int .i64 0, .int .i64 0, .int .i64 0] 84)) = w0 at *
    have d1 := (hE0.cell' hb).trans c1
    have d2 := (hE0.cell' hb).trans c2
    have d3 := (hE0.cell' hb).trans c3
    have d4 := (hE0.cell' hb).trans c4
    have e2 := (hE0.cell' hb2).trans hc2
    have hbw := Nat.lt_of_lt_of_le hb hE0.size
    have hbw2 := Nat.lt_of_lt_of_le hb2 hE0.size
    have hz1 := H84.out.lt
    have hz2 := H24.out.lt
    have g1 := H24.out.cellv 1 (v := .slice (some ⟨b, off, none⟩) R.length c) rfl
    have hE1 := ext_alloc w0 (.cells #[.int .i64 fr, .int .i64 tt, .int .i64 ln, .int .i64 wd] 55)
    have H55 := Lib.hid (BlkC.new w0 #[.int .i64 fr, .int .i64 tt, .int .i64 ln, .int .i64 wd] 55)
    go_wp2_with fail
    generalize (w0.alloc (.cells #[.int .i64 fr, .int .i64 tt, .int .i64 ln, .int .i64 wd] 55)) = w1 at *
    have p0 := H55.out.cellv 0 (v := .int .i64 fr) rfl
    have p1 := H55.out.cellv 1 (v := .int .i64 tt) rfl
    have p2 := H55.out.cellv 2 (v := .int .i64 ln) rfl
    have p3 := H55.out.cellv 3 (v := .int .i64 wd) rfl
    have p5 := H55.out.lt
    have e3 := (hE1.cell' hbw2).trans e2
    have hbw3 := Nat.lt_of_lt_of_le hbw2 hE1.size
    have H841 := Lib.hid (H84.out.ext hE1)
    have r0 := H841.out.cellv 0 (v := .int .i64 0) rfl
    have r1 := H841.out.cellv 1 (v := .int .i64 0) rfl
    have r2 := H841.out.cellv 2 (v := .int .i64 0) rfl
    have r3 := H841.out.cellv 3 (v := .int .i64 0) rfl
    have r4 := H841.out.cellv 4 (v := .int .i64 0) rfl
    have f0 := H841.out.frozen 0
    have f1 := H841.out.frozen 1
    have f2 := H841.out.frozen 2
    have f3 := H841.out.frozen 3
    have f4 := H841.out.frozen 4
    have hX1 := hE0.trans' hE1
    clear g1 d1 d2 d3 d4 c1 c2 c3 c4 e2 hc2
    generalize hB : w.heap.size + 1 = B at *
    generalize hC : w0.heap.size = C at *
    have hBC : B < C := by omega
    have hbB : b2 < B := by omega
    go_region
    have hwB : w.heap.size ≤ B := by omega
    obtain ⟨H3', hX3'⟩ := arc_put H841.out (.int .i64 (tt)) (.int .i64 (fr)) (.int .i64 (-ln)) (.int .i64 (k : Int)) (.int .i64 (-1))
    have hX3 := hX3' w hX1 hwB
    have H3 := Lib.hid H3'
    clear H3' hX3'
    clear r0 r1 r2 r3 r4 f0 f1 f2 f3 f4 p0 p1 p2 p3
    generalize World.drew (((((w1.setCell ⟨B, 0, none⟩ (.int .i64 (tt))).setCell ⟨B, 1, none⟩ (.int .i64 (fr))).setCell ⟨B, 2, none⟩ (.int .i64 (-ln))).setCell ⟨B, 3, none⟩ (.int .i64 (k : Int))).setCell ⟨B, 4, none⟩ (.int .i64 (-1))) = w3 at *
    have q0 := H3.out.cellv 0 (v := .int .i64 (tt)) rfl
    have q1 := H3.out.cellv 1 (v := .int .i64 (fr)) rfl
    have q2 := H3.out.cellv 2 (v := .int .i64 (-ln)) rfl
    have q3 := H3.out.cellv 3 (v := .int .i64 (k : Int)) rfl
    have q4 := H3.out.cellv 4 (v := .int .i64 (-1)) rfl
    have hlt3 := H3.out.lt
    go_wp2_with fail
    refine bodyPost_ret (v := .tuple #[.agg #[.int .i64 (tt), .int .i64 (fr), .int .i64 (-ln), .int .i64 (k : Int), .int .i64 (-1)], .bool (decide (0 < fv))]) (by simp [results, Try.results84, go_sem, q0, q1, q2, q3, q4]) rfl ⟨?_, hX3⟩
    rw [HF.out, HT.out, HL.out, HG.out, HO.out]
end Go.Proofs.Ytbejgbflipoboaa
