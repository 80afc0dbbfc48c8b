/- Place of the program. -/
import Derived.Test.YtfhgnmijigdlmaaT25
namespace Go.Proofs.Ytfhgnmijigdlmaa
open Go.RowKit
attribute [local go_sem] GW.cell Oper.semAt_some wide_depth
theorem plc_bad {l : List Atom} {x : Int} (h : valLoad l ≠ 0) : plcErr l x = valLoad l ∧ plcV l x = 0 := by
  have e : plcErr l x = valLoad l := by unfold plcErr; rw [if_pos h]
  exact ⟨e, by unfold plcV; rw [e, if_neg h]⟩
theorem plc_yes {l : List Atom} {x : Int} (h : valLoad l = 0) {k : Nat} (hk : k < (unitsL l).length) (e : (k : Int) = x) : plcErr l x = 0 ∧ plcV l x = gi (unitsL l) k := by
  subst e
  have e : plcErr l k = 0 := by unfold plcErr; rw [if_neg (by simpa using h), if_pos (by omega)]
  exact ⟨e, by unfold plcV; rw [if_pos e]; rfl⟩
theorem plc_no {l : List Atom} {x : Int} (h : valLoad l = 0) (hx : ∀ j, j < (unitsL l).length → (j : Int) ≠ x) : plcErr l x = 4 ∧ plcV l x = 0 := by
  have e : plcErr l x = 4 := by
    unfold plcErr
    rw [if_neg (by simpa using h), if_neg]
    rintro ⟨h1, h2⟩
    exact hx x.toNat (by omega) (by omega)
  exact ⟨e, by unfold plcV; rw [e, if_neg (by decide)]⟩
set_option maxRecDepth 100000 in
set_option maxHeartbeats 4000000 in
theorem f41_c (a : Option Addr) (n c : Nat) (l : List Atom) (x : Int) (w : World) (hl : Atoms w a l) (hn : l.length = n) (hlen : n ≤ 140737488355328) :
    Calls Try.prog 41 #[.slice a n c, .int .i64 x] w fun e w' => e = .returned (.tuple #[.int .i64 (plcV l x), .int .i64 (plcErr l x)]) ∧ Ext w w' := by
  subst hn
  have hEb : Ext w (((w.alloc (.cells #[.int .i64 x] 3)).alloc (.cells #[.int .i64 0] 3)).alloc (.cells #[.int .i64 0] 27)) :=
    ((Below.refl _ w).alloc (Nat.le_refl _) _).alloc (by simp) _ |>.alloc (by simp; omega) _
  obtain ⟨W0, hW0⟩ : ∃ W0, W0 = (((w.alloc (.cells #[.int .i64 x] 3)).alloc (.cells #[.int .i64 0] 3)).alloc (.cells #[.int .i64 0] 27)) := ⟨_, rfl⟩
  have b0 := ((Boxed.new w 3 (.int .i64 x)).alloc (.cells #[.int .i64 0] 3)).alloc (.cells #[.int .i64 0] 27)
  have b1 := (Boxed.new (w.alloc (.cells #[.int .i64 x] 3)) 3 (.int .i64 0)).alloc (.cells #[.int .i64 0] 27)
  have b2 := Boxed.new ((w.alloc (.cells #[.int .i64 x] 3)).alloc (.cells #[.int .i64 0] 3)) 27 (.int .i64 0)
  rw [← hW0] at hEb b0 b1 b2
  simp only [World.size_alloc] at b1 b2
  have hc := f47_c a l.length c l W0 (hl.ext hEb) rfl hlen
  by_cases hv : valLoad l = 0
  case neg =>
    obtain ⟨e1, e2⟩ := plc_bad (x := x) hv
    have hb : (valLoad l != 0) = true := by simp [hv]
    rw [e1, e2]
    have Hc := Lib.hid hc
    have HW0 := Lib.hid hW0
    clear hc hv hW0 e1 e2
    generalize valLoad l = E at *
    refine calls_range Try.func41 rfl ?_
    simp only [Try.ntmps41, List.size_toArray, List.length_cons, List.length_nil, Nat.reduceAdd, Nat.reduceSub, Array.replicate_succ, Array.replicate_zero, List.push_toArray, List.append_toArray, List.nil_append, List.cons_append]
    go_wp2_with fail
    rw [← HW0.out]
    refine Hc.out.mono ?_
    rintro e w1 ⟨rfl, hE1⟩
    clear Hc HW0
    have b1 := box_ext b1 hE1
    have b2 := box_ext b2 hE1
    have hE1 := hEb.trans' hE1
    have hc1 := b1.cell
    have hf1 := b1.frozen
    have hc2 := b2.cell
    have hf2 := b2.frozen
    go_wp2_with fail
    have q2 := ((b1.set (.int .i64 0)).other (show w.heap.size + 1 ≠ w.heap.size + 1 + 1 by omega) (.int .i64 E)).cell
    have q3 := ((b2.other (show w.heap.size + 1 + 1 ≠ w.heap.size + 1 by omega) (.int .i64 0)).set (.int .i64 E)).cell
    refine ⟨.tuple #[.int .i64 0, .int .i64 E], by simp [results, Try.results41, go_sem, q2, q3], rfl, (hE1.setCell (show w.heap.size ≤ w.heap.size + 1 by omega) _).setCell (show w.heap.size ≤ w.heap.size + 1 + 1 by omega) _⟩
  have Fy := Lib.hid (fun k hk e => plc_yes (x := x) hv (k := k) hk e)
  have Fn := Lib.hid (fun h => plc_no (x := x) hv h)
  have HS := Lib.hid (fun B => f116_seq a c l (fine_load hv) B)
  rw [hv] at hc
  have Hc := Lib.hid hc
  have HW0 := Lib.hid hW0
  clear hc hv hW0
  generalize plcV l x = V at *
  generalize plcErr l x = EE at *
  refine calls_range Try.func41 rfl ?_
  simp only [Try.ntmps41, List.size_toArray, List.length_cons, List.length_nil, Nat.reduceAdd, Nat.reduceSub, Array.replicate_succ, Array.replicate_zero, List.push_toArray, List.append_toArray, List.nil_append, List.cons_append]
  go_wp2_with fail
  rw [← HW0.out]
  refine Hc.out.mono ?_
  rintro e w1 ⟨rfl, hE1⟩
  clear Hc HW0
  have b0 := box_ext b0 hE1
  have b1 := box_ext b1 hE1
  have b2 := box_ext b2 hE1
  have hE1 := hEb.trans' hE1
  clear hEb
  go_wp2_with fail
  refine (f89_c _ _ _ _).mono ?_
  rintro e w2 ⟨rfl, rfl⟩
  have hs2 := b2.lt
  have e0 := Boxed.new w1 22 (.slice a l.length c)
  have hE2 := hE1.trans' (ext_alloc w1 (.cells #[.slice a l.length c] 22))
  go_wp2_with fail
  refine wp_rangeF (gf := 116) (lb := #[.pointer (some ⟨w1.heap.size, 0, none⟩)]) rfl (enters_of Try.func116 (by kernel_rfl) rfl)
    (HS.out w1.heap.size) (fun _ => rfl)
    (fun k W => Ext w W ∧ Boxed W w.heap.size 3 (.int .i64 x) ∧ Boxed W (w.heap.size + 1) 3 (.int .i64 0) ∧ Boxed W (w.heap.size + 1 + 1) 27 (.int .i64 0) ∧ Boxed W w1.heap.size 22 (.slice a l.length c) ∧ Hid (∀ j, j < k → (j : Int) ≠ x))
    (fun cd _ W => cd = .ret ∧ Ext w W ∧ Boxed W (w.heap.size + 1) 3 (.int .i64 V) ∧ Boxed W (w.heap.size + 1 + 1) 27 (.int .i64 EE)) ?hI ?hIx (fun k W h => ⟨h.2.2.2.2.1.cell, h.2.2.2.2.1.lt, hl.ext h.1⟩)
    ⟨hE2, b0.alloc _, b1.alloc _, b2.alloc _, e0, fun j hj => by omega⟩
    (fun k => { tmps := #[.slice a l.length c, .int .i64 x, undef, .pointer (some ⟨w.heap.size, 0, none⟩), .pointer (some ⟨w.heap.size + 1, 0, none⟩), .pointer (some ⟨w.heap.size + 1 + 1, 0, none⟩), .int .i64 0, .int .i64 k, .int .i64 (gi (unitsL l) k), .slice a l.length c, .int .i64 0, .int .i64 0, .bool false, undef, .slice a l.length c, .func (.func 116) #[] #[.pointer (some ⟨w1.heap.size, 0, none⟩)], .int .i64 k, .int .i64 (gi (unitsL l) k), undef, undef, undef, undef], defers := [] }) ?assign ?body ?done ?stop
  case hI =>
    rintro k X Y row ⟨hE, h0, h1, h2, h3, h7⟩ hg hr
    exact ⟨ext_keep hE hg (by simp; omega) hr, box_keep h0 hg hr, box_keep h1 hg hr, box_keep h2 hg hr, box_keep h3 hg hr, h7⟩
  case hIx =>
    rintro cd k X Y row ⟨hcd, hE, h1, h2⟩ hg hr
    exact ⟨hcd, ext_keep hE hg (by simp; omega) hr, box_keep h1 hg hr, box_keep h2 hg hr⟩
  case assign =>
    intro l0 k W K hK
    unfold unE
    gi_wp2
    exact hK
  case body =>
    rintro l0 k W ⟨hE, h0, h1, h2, h3, h7⟩ hk
    have hc0 := h0.cell
    have hc1 := h1.cell
    have hf1 := h1.frozen
    have hc2 := h2.cell
    have hf2 := h2.frozen
    have lt1 := h1.lt
    have lt2 := h2.lt
    have F1 := Lib.hid (Fy.out k hk)
    generalize gi (unitsL l) k = u at *
    by_cases heq : (k : Int) = x
    · obtain ⟨rfl, rfl⟩ := F1.out heq
      have hb : ((k : Int) == x) = true := by simpa using heq
      clear heq
      gi_wp2_with fail
      exact ⟨((KeepsOthers.setCell _ _ _)).trans (KeepsOthers.setCell _ _ _), rfl, (hE.setCell (show w.heap.size ≤ w.heap.size + 1 by omega) _).setCell (show w.heap.size ≤ w.heap.size + 1 + 1 by omega) _,
        (h1.set _).other (by omega) _, (h2.other (by omega) _).set _⟩
    · have hb : ((k : Int) == x) = false := by simpa using heq
      have H8 : Hid (∀ j, j < k + 1 → (j : Int) ≠ x) := Lib.hid fun j hj => by
        by_cases e : j = k
        · subst e; exact heq
        · exact h7.out j (by omega)
      clear heq
      gi_wp2_with fail
      exact ⟨ext_keeps (Below.refl _ _), ⟨hE, h0, h1, h2, h3, H8⟩, FarK.ext (Below.refl _ _) _⟩
  case done =>
    rintro D W hD ⟨hE, h0, h1, h2, h3, h7⟩ hK
    have hc2 := h1.cell
    have hf2 := h1.frozen
    have hc3 := h2.cell
    have hf3 := h2.frozen
    go_wp2
    have hD2 : w1.heap.size ≤ D := by simp at hD; omega
    have hK2 : ((W.setCell ⟨w.heap.size + 1, 0, none⟩ (.int .i64 0)).setCell ⟨w.heap.size + 1 + 1, 0, none⟩ (.int .i64 4)).heap[D]? = some (.deferred (some [])) :=
      (Below.heap_setCell _ ⟨_, 0, none⟩ _ D (by show D ≠ w.heap.size + 1 + 1; omega)).trans ((Below.heap_setCell _ ⟨_, 0, none⟩ _ D (by show D ≠ w.heap.size + 1; omega)).trans hK)
    have j2 := box_putObj ((h1.set (.int .i64 0)).other (show w.heap.size + 1 ≠ w.heap.size + 1 + 1 by omega) (.int .i64 4)) (l := D) (by omega) (.deferred none)
    have j3 := box_putObj ((h2.other (show w.heap.size + 1 + 1 ≠ w.heap.size + 1 by omega) (.int .i64 0)).set (.int .i64 4)) (l := D) (by omega) (.deferred none)
    refine ⟨by simp, .inl ⟨_, _, rfl, run_takeDeferred hK2, ?_⟩⟩
    have q2 := j2.cell
    have q3 := j3.cell
    refine ⟨.tuple #[.int .i64 0, .int .i64 4], by simp [results, Try.results41, go_sem, q2, q3], ?_, ext_putObj ((hE.setCell (show w.heap.size ≤ w.heap.size + 1 by omega) _).setCell (show w.heap.size ≤ w.heap.size + 1 + 1 by omega) _) (by omega) _⟩
    obtain ⟨e1, e2⟩ := Fn.out h7.out
    rw [e1, e2]
  case stop =>
    rintro D cd k W hD hk ⟨rfl, hE, h2, h3⟩ hK
    go_wp2
    have hD2 : w1.heap.size ≤ D := by simp at hD; omega
    refine ⟨by simp, .inl ⟨_, _, rfl, run_takeDeferred hK, ?_⟩⟩
    have q2 := (box_putObj h2 (l := D) (by omega) (.deferred none)).cell
    have q3 := (box_putObj h3 (l := D) (by omega) (.deferred none)).cell
    exact ⟨.tuple #[.int .i64 V, .int .i64 EE], by simp [results, Try.results41, go_sem, q2, q3], rfl, ext_putObj hE (by omega) _⟩
end Go.Proofs.Ytfhgnmijigdlmaa
