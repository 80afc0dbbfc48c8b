/- Contracts of the line: Mirror. -/
import Derived.Test.YtfhgnmijigdlmaaT17
namespace Go.Proofs.Ytfhgnmijigdlmaa
open Go.RowKit
attribute [local go_sem] GW.cell
/-- the first q and the last q turned round -/
def revTo (L : List Atom) (q : Nat) : List Atom := (List.range L.length).map fun k => if k < q ∨ L.length < k + q + 1 then atK L (L.length - 1 - k) else atK L k
theorem revTo_len (L : List Atom) (q : Nat) : (revTo L q).length = L.length := by simp [revTo]
theorem revTo_zero (L : List Atom) : revTo L 0 = L := by
  refine List.ext_getElem (by simp [revTo]) fun k h1 h2 => ?_
  simp only [revTo, List.getElem_map, List.getElem_range]
  rw [if_neg (by omega), atK_at h2]
theorem revTo_end (L : List Atom) {q : Nat} (h : L.length ≤ 2 * q + 1) : revTo L q = L.reverse := by
  refine List.ext_getElem (by simp [revTo]) fun k h1 h2 => ?_
  rw [List.length_reverse] at h2
  simp only [revTo, List.getElem_map, List.getElem_range, List.getElem_reverse]
  by_cases hc : k < q ∨ L.length < k + q + 1
  · rw [if_pos hc, atK_at (by omega)]
  · rw [if_neg hc, atK_at h2]
    congr 1; omega
theorem revTo_at1 {L : List Atom} {q : Nat} (h : 2 * q + 1 < L.length) : (revTo L q)[q]'(by rw [revTo_len]; omega) = atK L q := by
  simp only [revTo, List.getElem_map, List.getElem_range]
  rw [if_neg (by omega)]
theorem revTo_at2 {L : List Atom} {q : Nat} (h : 2 * q + 1 < L.length) : (revTo L q)[L.length - 1 - q]'(by rw [revTo_len]; omega) = atK L (L.length - 1 - q) := by
  simp only [revTo, List.getElem_map, List.getElem_range]
  rw [if_neg (by omega)]
theorem revTo_step {L : List Atom} {q : Nat} (h : 2 * q + 1 < L.length) : ((revTo L q).set q (atK L (L.length - 1 - q))).set (L.length - 1 - q) (atK L q) = revTo L (q + 1) := by
  refine List.ext_getElem (by simp [revTo]) fun k h1 h2 => ?_
  rw [revTo_len] at h2
  rw [List.getElem_set, List.getElem_set]
  by_cases e1 : L.length - 1 - q = k
  · rw [if_pos e1]
    simp only [revTo, List.getElem_map, List.getElem_range]
    rw [if_pos (by omega)]
    congr 1; omega
  · rw [if_neg e1]
    by_cases e2 : q = k
    · rw [if_pos e2]
      simp only [revTo, List.getElem_map, List.getElem_range]
      rw [if_pos (by omega), e2]
    · rw [if_neg e2]
      simp only [revTo, List.getElem_map, List.getElem_range]
      by_cases hc : k < q ∨ L.length < k + q + 1
      · rw [if_pos hc, if_pos (by omega)]
      · rw [if_neg hc, if_neg (by omega)]
theorem grown_trans {a b c : World} {row : Option Nat} (h1 : a.grownBy b row) (h2 : b.grownBy c row) : a.grownBy c row :=
  ⟨h2.os.trans h1.os, h2.tape.trans h1.tape, h2.output.trans h1.output, Nat.le_trans h1.size h2.size, fun i hi hne => (h2.block i (Nat.lt_of_lt_of_le hi h1.size) hne).trans (h1.block i hi hne)⟩
theorem atomV_set2 (M : List Atom) (k : Nat) (hk : k < M.length) (x : Atom) : ((atomV M).set (k * 2) (.int .i64 x.p)).set (k * 2 + 1) (.int .i64 x.m) = atomV (M.set k x) := by
  rw [atomV_set0 M k hk x.p, atomV_set1 _ k (by rw [List.length_set]; exact hk) x.m, List.set_set]
  simp
set_option maxRecDepth 20000 in
set_option maxHeartbeats 8000000 in
theorem f87_c {w : World} {base n : Nat} {v : Value} {L : List Atom} (h : w.ownsRow base 50 2 v n (atomV L)) (hlen : n ≤ 1000) :
    Calls Try.prog 87 #[v] w fun e w' => e = .returned (.tuple #[]) ∧ w'.ownsRow base 50 2 v n (atomV L.reverse) ∧ w.grownBy w' v.ownBlock := by
  have hn : L.length = n := by have := h.1; rw [atomV_length] at this; omega
  subst hn
  have hl0 := h
  obtain ⟨av, cv, rfl⟩ := slice_form h
  have H0 := Lib.hid (show w.ownsRow base 50 2 (.slice av L.length cv) L.length (atomV (revTo L 0)) by rw [revTo_zero]; exact h)
  clear h hl0
  go_enter Try.func87, Try.ntmps87
  go_wp2_with fail
  go_loopw [2, 3] (fun i j wr => ∃ q : Nat, 2 * q ≤ L.length ∧ i = .int .i64 q ∧ j = .int .i64 ((L.length : Int) - 1 - q) ∧ w.grownBy wr (Value.slice av L.length cv).ownBlock ∧ Hid (wr.ownsRow base 50 2 (.slice av L.length cv) L.length (atomV (revTo L q)))) (fun i j _ => (intOf j - intOf i + 1).toNat)
  case atStart => exact ⟨0, by omega, rfl, by congr 1 <;> omega, World.grownBy.refl _ _, H0⟩
  case round =>
    obtain ⟨q, hq, rfl, rfl, hG, H⟩ := hrel
    by_cases hlt : 2 * q + 1 < L.length
    · have hlt2 : (q : Int) < (L.length : Int) - 1 - q := by omega
      obtain ⟨g, cap, he, hg1, hg2⟩ := ownsRow_form H.out (by omega)
      simp only [Value.slice.injEq, true_and] at he
      obtain ⟨rfl, rfl⟩ := he
      obtain ⟨j, hj⟩ : ∃ j, j = L.length - 1 - q := ⟨_, rfl⟩
      have hjl : j < (revTo L q).length := by rw [revTo_len]; omega
      have hql : q < (revTo L q).length := by rw [revTo_len]; omega
      have a1 := atomV_at (revTo L q) q hql
      have a2 := atomV_at (revTo L q) j hjl
      rw [revTo_at1 hlt] at a1
      subst hj
      rw [revTo_at2 hlt] at a2
      have c1 := (H.out.cellAt (q * 2) (by omega)).trans a1.1
      have c2 := (H.out.cellAt (q * 2 + 1) (by omega)).trans a1.2
      have c3 := (H.out.cellAt ((L.length - 1 - q) * 2) (by omega)).trans a2.1
      have c4 := (H.out.cellAt ((L.length - 1 - q) * 2 + 1) (by omega)).trans a2.2
      have fz := fun i => H.out.frozenAt i
      have hji : (L.length : Int) - 1 - q = ((L.length - 1 - q : Nat) : Int) := by omega
      rw [hji]
      have hst := Lib.hid (revTo_step hlt)
      obtain ⟨j, hj⟩ : ∃ j, j = L.length - 1 - q := ⟨_, rfl⟩
      rw [← hj] at c3 c4 hst ⊢
      have hj1 : j < L.length := by omega
      have hj2 : q < j := by omega
      have hql2 : q < L.length := by omega
      have hlt3 : (q : Int) < (j : Int) := by omega
      have Hj := Lib.hid hj
      clear hlt2 hj a1 a2 hjl hql hji
      have n1 : ((q : Int) = (j : Int)) = False := by simp; omega
      have hgg : g < wr.heap.size := hg2
      go_wp2_with fail
      go_region
      obtain ⟨H5a, G5a⟩ := H.out.stored (q * 2) (.int .i64 (atK L j).p)
      obtain ⟨H5b, G5b⟩ := H5a.stored (q * 2 + 1) (.int .i64 (atK L j).m)
      obtain ⟨H5c, G5c⟩ := H5b.stored (j * 2) (.int .i64 (atK L q).p)
      obtain ⟨H5, G5d⟩ := H5c.stored (j * 2 + 1) (.int .i64 (atK L q).m)
      rw [atomV_set2 _ q (by rw [revTo_len]; omega), atomV_set2 _ j (by rw [List.length_set, revTo_len]; omega), hst.out] at H5
      have G5 := grown_trans hG (grown_trans G5a (grown_trans G5b (grown_trans G5c G5d)))
      clear H5a H5b H5c G5a G5b G5c G5d hst
      generalize (((wr.setCell ⟨g, q * 2, none⟩ (.int .i64 (atK L j).p)).setCell ⟨g, q * 2 + 1, none⟩ (.int .i64 (atK L j).m)).setCell ⟨g, j * 2, none⟩ (.int .i64 (atK L q).p)).setCell ⟨g, j * 2 + 1, none⟩ (.int .i64 (atK L q).m) = w7 at *
      have H6 := Lib.hid (row_ext H5 (ext_drew _))
      have G6 := grown_trans G5 (row := (Value.slice (some ⟨g, 0, none⟩) L.length cv).ownBlock) (c := w7.drew) ⟨rfl, rfl, rfl, Nat.le_refl _, fun _ _ _ => rfl⟩
      clear H5 G5
      have Hjq : Hid ((j : Int) - 1 = (L.length : Int) - 1 - ((q + 1 : Nat) : Int)) := Lib.hid (by have := Hj.out; omega)
      go_wp2_with fail
      go_roundw
      case rel => exact ⟨q + 1, by omega, by go_num, by rw [Hjq.out], G6, H6⟩
      case measure => simp [intOf]; omega
    · have hlt2 : ¬ (q : Int) < (L.length : Int) - 1 - q := by omega
      have Hr := Lib.hid (revTo_end L (q := q) (by omega))
      rw [Hr.out] at H
      go_wp2_with fail
      go_end0
      exact ⟨rfl, H.out, hG⟩
/-! Mirror -/
theorem neg_ok {l : List Atom} (hv : valLoad l = 0) : chErr (fun p => -p) l = 0 ∧ chV (fun p => -p) l = chL (fun p => -p) l := by
  have hok : chOk (fun p => -p) l = true := chOk_yes fun j hj => by
    have := ((valLoad_in hv).2.1 _ (List.getElem_mem hj)).1
    rw [withinB_iff]; omega
  unfold chErr chV
  rw [hok]
  exact ⟨rfl, rfl⟩
set_option maxRecDepth 20000 in
set_option maxHeartbeats 8000000 in
theorem f37_c (a : Option Addr) (n c : Nat) (l : List Atom) (w : World) (hl : Atoms w a l) (hn : l.length = n) (hlen : n ≤ 140737488355328) :
    Calls Try.prog 37 #[.slice a n c] w (RetAt (mirrorV l) (valLoad l) w) := by
  have C1 := f47_c a n c l _ hl hn hlen
  by_cases h0 : valLoad l = 0
  case neg =>
    have hb : (valLoad l != 0) = true := by simp [h0]
    rw [show mirrorV l = [] by unfold mirrorV; rw [if_neg h0]]
    have C1 := Lib.hid C1
    clear h0 hn
    generalize valLoad l = E at *
    go_enter Try.func37, Try.ntmps37
    go_wp2_with fail
    refine C1.out.mono ?_
    rintro e w1 ⟨rfl, hE1⟩
    go_wp2_with fail
    go_ret2
    exact retAt_nil hE1
  obtain ⟨e1, e2⟩ := neg_ok h0
  have h6 : n ≤ 6 := by have := (valLoad_in h0).1; omega
  have hbd : ∀ x ∈ l, -1000 ≤ x.p ∧ x.p ≤ 1000 := fun x hx => ((valLoad_in h0).2.1 x hx).1
  have C2 := fun W (h : Ext w W) => f84_mirror a n c l W (hl.ext h) hn h6 hbd
  rw [e1, e2] at C2
  rw [show mirrorV l = (chL (fun p => -p) l).reverse by unfold mirrorV; rw [if_pos h0]; rfl]
  rw [h0] at C1 ⊢
  have C1 := Lib.hid C1
  have C2 := Lib.hid C2
  have hcl : (chL (fun p => -p) l).length ≤ 6 := by rw [chL_len]; omega
  clear h0 e1 e2 hn hbd
  generalize chL (fun p => -p) l = L at *
  go_enter Try.func37, Try.ntmps37
  go_wp2_with fail
  refine C1.out.mono ?_
  rintro e w1 ⟨rfl, hE1⟩
  go_wp2_with fail
  refine (C2.out _ hE1).mono ?_
  rintro e w2 ⟨av, cv, rfl, hr, hX2⟩
  have hr := row_base hr hE1.size
  have hE2 := hE1.trans' hX2
  have C3 := Lib.hid (f87_c hr (by omega))
  have HR := Lib.hid hr
  clear hr
  go_wp2_with fail
  refine C3.out.mono ?_
  rintro e w3 ⟨rfl, hr3, hg3⟩
  have hE3 := ext_grow hE2 HR.out (Nat.le_refl _) hg3
  have hf := Lib.hid (show RetAt L.reverse 0 w (.returned (.tuple #[.slice av L.length cv, .int .i64 0])) w3 from ⟨av, cv, by rw [List.length_reverse], by rw [List.length_reverse]; exact hr3, hE3⟩)
  clear hr3 hg3
  go_wp2_with fail
  go_ret2
  exact hf.out
theorem mir_len (l : List Atom) : (mirrorL l).length = l.length := by simp [mirrorL]
theorem mir_take {l : List Atom} {k : Nat} (hk : k < l.length) : (mirrorL l).take (k + 1) = (mirrorL l).take k ++ [⟨-(atK l (l.length - 1 - k)).p, (atK l (l.length - 1 - k)).m⟩] := by
  rw [List.take_succ_eq_append_getElem (by rw [mir_len]; exact hk)]
  congr 2
  unfold mirrorL
  rw [List.getElem_reverse]
  simp only [List.getElem_map, List.length_map]
  rw [atK_at (by omega)]
set_option maxRecDepth 20000 in
set_option maxHeartbeats 8000000 in
theorem f38_c (a : Option Addr) (n c : Nat) (l : List Atom) (w : World) (hl : Atoms w a l) (hn : l.length = n) (hlen : n ≤ 140737488355328) :
    Calls Try.prog 38 #[.slice a n c] w (RetAt (mirrorV l) (valLoad l) w) := by
  have C1 := f48_c a n c l _ hl hn hlen
  by_cases h0 : valLoad l = 0
  case neg =>
    have hb : (valLoad l != 0) = true := by simp [h0]
    rw [show mirrorV l = [] by unfold mirrorV; rw [if_neg h0]]
    have C1 := Lib.hid C1
    clear h0 hn
    generalize valLoad l = E at *
    go_enter Try.func38, Try.ntmps38
    go_wp2_with fail
    refine C1.out.mono ?_
    rintro e w1 ⟨rfl, hE1⟩
    go_wp2_with fail
    go_ret2
    exact retAt_nil hE1
  subst hn
  have h6 : l.length ≤ 6 := (valLoad_in h0).1
  have Hbd : Hid (∀ x ∈ l, -1000 ≤ x.p ∧ x.p ≤ 1000) := Lib.hid (fun x hx => ((valLoad_in h0).2.1 x hx).1)
  have C2 := Lib.hid (fun (a : Option Addr) (c : Nat) (W : World) (h : Atoms W a (mirrorL l)) => f80_yes a l.length c (mirrorL l) W h (mir_len l) hlen (mirror_valid h0))
  rw [show mirrorV l = mirrorL l by unfold mirrorV; rw [if_pos h0]]
  rw [h0] at C1 ⊢
  have C1 := Lib.hid C1
  have Hlen := Lib.hid (mir_len l)
  have Hstep := Lib.hid (fun k (hk : k < l.length) => mir_take hk)
  have Hat := Lib.hid (fun k (hk : k < l.length) => atK_at (l := l) hk)
  obtain ⟨i0, hi0⟩ := info_parts info50
  have Hi := Lib.hid hi0
  clear h0 hi0
  generalize mirrorL l = L at *
  go_enter Try.func38, Try.ntmps38
  go_wp2_with fail
  refine C1.out.mono ?_
  rintro e w1 ⟨rfl, hE1⟩
  go_wp2_with fail
  go_loopw [5, 6] (fun v i wr => ∃ k : Nat, k ≤ l.length ∧ i = .int .i64 ((l.length : Int) - 1 - k) ∧ Ext w wr ∧ Hid (wr.ownsRow w.heap.size 50 2 v k (atomV (L.take k)))) (fun _ i _ => (intOf i + 1).toNat)
  case atStart => exact ⟨0, Nat.zero_le _, by congr 1 <;> omega, hE1, World.ownsRow_nil _ _ _ _⟩
  case round =>
    obtain ⟨k, hk, rfl, hE, H⟩ := hrel
    by_cases hlt : k < l.length
    · have hs := Hstep.out k hlt
      have hi1 : (l.length : Int) - 1 - k = ((l.length - 1 - k : Nat) : Int) := by omega
      rw [hi1]
      obtain ⟨j, hj⟩ : ∃ j, j = l.length - 1 - k := ⟨_, rfl⟩
      rw [← hj] at hs ⊢
      have hjl : j < l.length := by omega
      have Hj : Hid ((j : Int) - 1 = (l.length : Int) - 1 - ((k + 1 : Nat) : Int)) := Lib.hid (by omega)
      rw [Hat.out j hjl] at hs
      obtain ⟨b, off, rfl, hb, hx, hy⟩ := hl.ext hE j hjl
      have hp := Hbd.out _ (List.getElem_mem hjl)
      have Ht := Lib.hid hs
      clear hs hi1
      generalize l[j].p = pp at *
      generalize l[j].m = mm at *
      have k1 : IntKind.i64.wrap (-pp) = -pp := IntWalk.i64_in _ (by omega)
      have hj6 : j ≤ 6 := by omega
      have hk6 : k ≤ 6 := by omega
      clear hj
      go_wp2_with fail
      refine wp_region_ext_tail1 13 (by kernel_rfl) (by kernel_rfl) (by rfl) (by rfl) (fun _ _ _ h => h) ?_
      simp only [List.take_succ_cons, List.take_zero, List.drop_succ_cons, List.drop_zero]
      go_simp
      repeat (go_big_quiet_step (fail))
      refine wpQuiet_nil ?_
      intro w4 hE4
      have H4 := Lib.hid (row_ext H.out hE4)
      have hE4 := hE.trans' hE4
      have hsz := hE4.size
      have Hn := Lib.hid (reads_atoms (atoms_new1 w4 ⟨-pp, mm⟩ 50))
      clear k1
      go_wp2_with (at_builtin; refine wpList_append_any _ rfl (.tmp 19) (.tmp 32) 22 rfl w.heap.size 50 i0 _ 2 16 Try.underlying22 Hi.out.1 Hi.out.2.1 Hi.out.2.2.1 Hi.out.2.2.2 rfl (by omega) _ k _ rfl (H4.out.alloc _) _ (some ⟨w4.heap.size, 0, none⟩) 1 1 (atomV [⟨-pp, mm⟩]) rfl Hn.out (atomV_one_cell _) (by unfold maxLen; omega) (by omega) (by simp; omega) ?_; intro v' w5 hown hgrow hat; have hE5 := ext_append hE4 H4.out (Nat.le_refl _) hgrow; rw [← atomV_append, ← Ht.out] at hown; have H5 := Lib.hid hown; clear hat hgrow hown)
      go_roundw
      case rel => exact ⟨k + 1, by omega, by rw [Hj.out], hE5, H5⟩
      case measure => simp [intOf]
    · obtain rfl : k = l.length := by omega
      have H2 := H.out
      rw [← Hlen.out, List.take_length] at H2
      have H3 := H2
      obtain ⟨av, cv, e, hA⟩ := atoms_of_row H2
      subst e
      have C3 := C2.out av cv _ hA
      rw [← Hlen.out] at C3
      have C3 := Lib.hid C3
      have H3 := Lib.hid H3
      have hi1 : ¬ (0 : Int) ≤ (l.length : Int) - 1 - (l.length : Int) := by omega
      have Hg := Lib.hid Hlen.out
      have e1 : (l.length : Int) - 1 - (l.length : Int) = -1 := by omega
      rw [e1]
      clear H H2 hA e1 hi1
      go_wp2_with fail
      refine C3.out.mono ?_
      rintro e w6 ⟨rfl, hX6⟩
      have hf := Lib.hid (show RetAt L 0 w (.returned (.tuple #[.slice av L.length cv, .int .i64 0])) w6 from ⟨av, cv, rfl, row_ext H3.out hX6, hE.trans' hX6⟩)
      go_wp2_with fail
      go_ret2
      exact hf.out
end Go.Proofs.Ytfhgnmijigdlmaa
