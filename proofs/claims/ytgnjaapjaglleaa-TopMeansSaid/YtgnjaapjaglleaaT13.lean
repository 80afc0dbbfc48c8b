/- Contracts of layer 7: Clone of atoms, told, Scale. -/
import Derived.Test.YtgnjaapjaglleaaT12
import Derived.Test.YtgnjaapjaglleaaP9
namespace Go.Proofs.Ytgnjaapjaglleaa
open Go.RowKit
attribute [local go_sem] GW.cell

set_option maxHeartbeats 1000000 in
theorem f80_c (a : Option Addr) (n c : Nat) (l : List Atom) (w : World) (hl : Atoms w a l) (hn : l.length = n) (hlen : n ≤ 1000000) :
    Calls Try.prog 80 #[.slice a n c] w fun e w' => ∃ v, e = .returned v ∧ w'.ownsRow w.heap.size 66 2 v n (atomV l) ∧ Ext w w' := by
  subst hn
  have hnil := fun (w : World) => Lib.run_eql_slice_nil (P := Try.prog) w 22 66 a l.length c 0 0 Try.underlying22
  obtain ⟨i0, hi⟩ := info_parts info66
  have Hi := Lib.hid hi
  clear hi
  cases a with
  | none =>
    have H0 := Lib.hid (atoms_nil hl)
    clear hl Hi
    generalize hn : l.length = n at *
    have Hn := Lib.hid hn
    clear hn
    go_enter Try.func80, Try.ntmps80
    go_wp2_with fail
    go_ret
    refine ⟨_, rfl, ?_, Below.refl _ _⟩
    have e : n = 0 := by rw [← Hn.out, H0.out]; rfl
    rw [e, H0.out]
    exact World.ownsRow_nil _ _ _ _
  | some ad =>
    have Hrow := Lib.hid (row_empty w 66 2)
    have Hr := Lib.hid (reads_atoms (hl.ext (ext_alloc w (.cells #[] 66))))
    go_enter Try.func80, Try.ntmps80
    go_wp2_with (at_builtin; refine wpList_append_any _ rfl (.tmp 5) (.tmp 6) 22 rfl w.heap.size 66 i0 _ 2 16 Try.underlying22 Hi.out.1 Hi.out.2.1 Hi.out.2.2.1 Hi.out.2.2.2 rfl (by omega) (.slice (some ⟨w.heap.size, 0, none⟩) 0 0) 0 [] rfl Hrow.out _ (some ad) l.length c (atomV l) rfl Hr.out (atomV_one_cell l) (by unfold maxLen; omega) (by omega) (by simp) ?_; intro v' w1 hown hgrow hat)
    go_ret
    exact ⟨_, rfl, by simpa using hown, ext_grow (ext_alloc _ _) Hrow.out (Nat.le_refl _) hgrow⟩
theorem f81_yes (a : Option Addr) (n c : Nat) (l : List Atom) (w : World) (hl : Atoms w a l) (hn : l.length = n) (hlen : n ≤ 140737488355328) (h : valAtoms l = 0) :
    Calls Try.prog 81 #[.slice a n c] w fun e w' => e = .returned (.tuple #[.slice a n c, .int .i64 0]) ∧ Ext w w' := by
  have H := Lib.hid (f49_c a n c l w hl hn hlen)
  rw [h] at H
  clear h
  go_enter Try.func81, Try.ntmps81
  go_wp2_with fail
  refine H.out.mono ?_
  rintro e w1 ⟨rfl, hE⟩
  go_wp2_with fail
  go_ret2
  exact ⟨rfl, hE⟩
theorem f81_no (a : Option Addr) (n c : Nat) (l : List Atom) (w : World) (hl : Atoms w a l) (hn : l.length = n) (hlen : n ≤ 140737488355328) (h : valAtoms l ≠ 0) :
    Calls Try.prog 81 #[.slice a n c] w fun e w' => e = .returned (.tuple #[.slice none 0 0, .int .i64 3]) ∧ Ext w w' := by
  have H := Lib.hid (f49_c a n c l w hl hn hlen)
  have hb : (valAtoms l != 0) = true := by simp [h]
  clear h
  go_enter Try.func81, Try.ntmps81
  go_wp2_with fail
  refine H.out.mono ?_
  rintro e w1 ⟨rfl, hE⟩
  go_wp2_with fail
  go_ret2
  exact ⟨rfl, hE⟩

theorem scale_bad {l : List Atom} {b : Int} {w w' : World} {E : Int} (h : scaleErr l b = E) (h2 : E ≠ 0) (hE : Ext w w') : RetAtoms (scaleV l b) (scaleErr l b) w (.returned (.tuple #[.slice none 0 0, .int .i64 E])) w' := by
  subst h
  unfold scaleV; rw [if_neg h2]; exact retA_nil hE
set_option maxRecDepth 20000 in
set_option maxHeartbeats 4000000 in
theorem f39_c (a : Option Addr) (n c : Nat) (l : List Atom) (b : Int) (w : World) (hl : Atoms w a l) (hn : l.length = n) (hlen : n ≤ 140737488355328) :
    Calls Try.prog 39 #[.slice a n c, .int .i64 b] w (RetAtoms (scaleV l b) (scaleErr l b) w) := by
  subst hn
  go_enter Try.func39, Try.ntmps39
  go_wp2_with fail
  refine (f49_c a l.length c l _ hl rfl hlen).mono ?_
  rintro e w1 ⟨rfl, hE1⟩
  by_cases h0 : valAtoms l = 0
  · rw [h0]
    have H0 := Lib.hid h0
    have h40 := (fine_atoms h0).1
    clear h0
    by_cases hb1 : b < 1
    · have d1 : decide (b < 1) = true := by simpa using hb1
      go_wp2_with fail
      go_ret2
      exact scale_bad (by unfold scaleErr; rw [H0.out]; simp [withinB]; omega) (by omega) hE1
    have d1 : decide (b < 1) = false := by simpa using hb1
    by_cases hb2 : 60 < b
    · have d2 : decide (60 < b) = true := by simpa using hb2
      go_wp2_with fail
      go_ret2
      exact scale_bad (by unfold scaleErr; rw [H0.out]; simp [withinB]; omega) (by omega) hE1
    have d2 : decide (60 < b) = false := by simpa using hb2
    have HW : Hid (withinB b 1 60 = true) := Lib.hid (withinB_iff.2 (by omega))
    go_wp2_with fail
    refine (f80_c a l.length c l _ (hl.ext hE1) rfl (by omega)).mono ?_
    rintro e w2 ⟨v2, rfl, hrow, hE2⟩
    obtain ⟨av, cv, rfl⟩ := slice_form hrow
    have hE2' := hE1.trans' hE2
    have hrow2 := row_base hrow hE1.size
    have Hrow := Lib.hid hrow2
    clear hrow hrow2
    go_wp2_with fail
    go_loopw [8, 24] (fun _ i wr => ∃ q : Nat, q ≤ l.length ∧ i = .int .i64 q ∧ Ext w wr ∧ Hid (wr.ownsRow w.heap.size 66 2 (.slice av l.length cv) l.length (atomV (mixL l b q)))) (fun _ i _ => l.length - (intOf i).toNat)
    case atStart => exact ⟨0, Nat.zero_le _, rfl, hE2', by rw [mixL_zero]; exact Hrow⟩
    case round =>
      obtain ⟨q, hq, rfl, hE3, H⟩ := hrel
      by_cases hlt : q < l.length
      · obtain ⟨g, cap, he, hg1, hg2⟩ := ownsRow_form H.out (by omega)
        simp only [Value.slice.injEq, true_and] at he
        obtain ⟨rfl, rfl⟩ := he
        have hql : q < (mixL l b q).length := by rw [mixL_length]; exact hlt
        have hat := (atomV_at (mixL l b q) q hql).1
        rw [mixL_at hlt] at hat
        have gp : wr.cell? ⟨g, q * 2, none⟩ = some (.int .i64 l[q].p) := (H.out.cellAt (q * 2) (by omega)).trans hat
        have gf := H.out.frozenAt (q * 2)
        have hbd := scale_bd H0.out (b := b) (by omega) hlt
        have hst := atomV_set0 (mixL l b q) q hql (l[q].p * b)
        rw [mixL_at hlt, mixL_set hlt] at hst
        have Hst := Lib.hid hst
        have hE4 := hE3.setCell (show w.heap.size ≤ g from hg1) (p := ⟨g, q * 2, none⟩) (.int .i64 (l[q].p * b))
        have H4 : Hid ((wr.setCell ⟨g, q * 2, none⟩ (.int .i64 (l[q].p * b))).ownsRow w.heap.size 66 2 (.slice (some ⟨g, 0, none⟩) l.length cv) l.length (atomV (mixL l b (q + 1)))) := Lib.hid (by
          rw [← Hst.out]; exact (H.out.stored (q * 2) _).1)
        have hp := (fine_atoms H0.out).2 q hlt
        clear hat hst
        go_wp2_with fail
        go_roundw
        case rel => exact ⟨q + 1, by omega, by go_num, hE4, H4⟩
        case measure => simp [intOf]; omega
      · obtain rfl : q = l.length := by omega
        have Hr : Hid (wr.ownsRow w.heap.size 66 2 (.slice av l.length cv) l.length (atomV (scaleL l b))) := Lib.hid (by rw [← mixL_end]; exact H.out)
        have hr2 := Hr.out
        rw [← scaleL_length l b] at hr2
        obtain ⟨a', c', he, hA⟩ := atoms_of_row hr2
        simp only [Value.slice.injEq] at he
        obtain ⟨rfl, -, rfl⟩ := he
        clear H hr2
        rcases Bool.eq_false_or_eq_true (l.all (scOk b)) with hall | hall
        · have Hv := Lib.hid (scale_valid H0.out (by omega) hall)
          have He : Hid (scaleErr l b = 0) := Lib.hid (by unfold scaleErr; rw [H0.out, HW.out, hall]; simp)
          clear hall
          go_wp2_with fail
          refine (f81_yes av l.length cv (scaleL l b) _ hA (scaleL_length l b) hlen Hv.out).mono ?_
          rintro e w5 ⟨rfl, hE5⟩
          go_wp2_with fail
          go_ret2
          refine ⟨_, ret_vi rfl He.out.symm, ?_, hE3.trans' hE5⟩
          unfold scaleV
          rw [if_pos He.out, scaleL_length]
          exact row_ext Hr.out hE5
        · have Hv := Lib.hid (scale_far hall)
          have He : Hid (scaleErr l b = 3) := Lib.hid (by unfold scaleErr; rw [H0.out, HW.out, hall]; simp)
          clear hall
          go_wp2_with fail
          refine (f81_no av l.length cv (scaleL l b) _ hA (scaleL_length l b) hlen Hv.out).mono ?_
          rintro e w5 ⟨rfl, hE5⟩
          go_wp2_with fail
          go_ret2
          exact scale_bad He.out (by omega) (hE3.trans' hE5)
  · have hb : (valAtoms l != 0) = true := by simp [h0]
    have H0 := Lib.hid h0
    clear h0
    go_wp2_with fail
    go_ret2
    exact scale_bad (by unfold scaleErr; rw [if_pos H0.out]) H0.out hE1

end Go.Proofs.Ytgnjaapjaglleaa
