/- Contracts of layer 7: Scale of the reference. -/
import Derived.RegionTactic
import Derived.BigRegion
import Derived.Test.YtgnjaapjaglleaaT13
namespace Go.Proofs.Ytgnjaapjaglleaa
open Go.RowKit
attribute [local go_sem] GW.cell

theorem take_scale {l : List Atom} {b : Int} {q : Nat} (hq : q < l.length) : scaleL (l.take (q + 1)) b = scaleL (l.take q) b ++ [⟨b * l[q].p, l[q].m⟩] := by
  unfold scaleL
  rw [List.take_succ_eq_append_getElem hq, List.map_append]
  simp [scA, Int.mul_comm]
set_option maxRecDepth 20000 in
set_option maxHeartbeats 8000000 in
theorem f29_c (a : Option Addr) (n c : Nat) (l : List Atom) (b : Int) (w : World) (hl : Atoms w a l) (hn : l.length = n) (hlen : n ≤ 140737488355328) :
    Calls Try.prog 29 #[.slice a n c, .int .i64 b] w (RetAtoms (scaleV l b) (scaleErr l b) w) := by
  subst hn
  obtain ⟨i0, hi⟩ := info_parts info66
  have Hi := Lib.hid hi
  clear hi
  go_enter Try.func29, Try.ntmps29
  go_wp2_with fail
  refine (f50_c a l.length c l _ hl rfl hlen).mono ?_
  rintro e w1 ⟨rfl, hE1⟩
  by_cases h0 : valAtoms l = 0
  · rw [h0]
    have H0 := Lib.hid h0
    have h40 := (fine_atoms h0).1
    clear h0
    go_wp2_with fail
    refine (f73_c _ _ _ _).mono ?_
    rintro e w2 ⟨rfl, rfl⟩
    rcases Bool.eq_false_or_eq_true (withinB b 1 60) with hb | hb
    · rw [hb]
      have HW := Lib.hid hb
      have hb' := withinB_iff.1 hb
      clear hb
      go_wp2_with fail
      go_loopw [7, 8] (fun v i wr => ∃ q : Nat, q ≤ l.length ∧ i = .int .i64 q ∧ Ext w wr ∧ Hid (wr.ownsRow w.heap.size 66 2 v q (atomV (scaleL (l.take q) b))) ∧ Hid (∀ j, (hj : j < l.length) → j < q → scOk b l[j] = true)) (fun _ i _ => l.length - (intOf i).toNat)
      case atStart => exact ⟨0, Nat.zero_le _, rfl, hE1, World.ownsRow_nil _ _ _ _, fun j hj h => by omega⟩
      case round =>
        obtain ⟨q, hq, rfl, hE, H, Hq⟩ := hrel
        by_cases hlt : q < l.length
        · obtain ⟨bb, off, rfl, hbb, hx, hy⟩ := hl.ext hE q hlt
          have hbd := scale_bd H0.out (b := b) (by omega) hlt
          have hp := (fine_atoms H0.out).2 q hlt
          have Hts := Lib.hid (take_scale (b := b) hlt)
          have Hok : Hid (scOk b l[q] = withinB (b * l[q].p) (-60000) 60000) := Lib.hid (by unfold scOk; rw [Int.mul_comm])
          rw [Int.mul_comm] at hbd
          generalize hx0 : l[q].p = x at *
          generalize hy0 : l[q].m = y at *
          clear hx0 hy0
          have hsz := hE.size
          have H1 := Lib.hid (World.ownsRow.alloc H.out (.cells #[.int .i64 (b * x), .int .i64 y] 66))
          have e1 : IntKind.i64.wrap (b * x) = b * x := IntWalk.i64_in _ (by omega)
          go_wp2_with fail
          go_region
          have hEb := (hE.trans' (ext_alloc wr (.cells #[.int .i64 (b * x), .int .i64 y] 66))).trans' (ext_drew _)
          have HB3 := Lib.hid ((BlkC.new wr #[.int .i64 (b * x), .int .i64 y] 66).ext (ext_drew _))
          have H3 := Lib.hid (row_ext H1.out (ext_drew _))
          obtain ⟨w3, hw3⟩ : ∃ w3 : World, w3 = (wr.alloc (.cells #[.int .i64 (b * x), .int .i64 y] 66)).drew := ⟨_, rfl⟩
          have hw3' : ({ (wr.alloc (.cells #[.int .i64 (b * x), .int .i64 y] 66)) with drawn := (wr.alloc (.cells #[.int .i64 (b * x), .int .i64 y] 66)).drawn + 1 } : World) = w3 := hw3.symm
          rw [hw3'] at hEb HB3 H3
          rw [← hw3]
          clear hw3' hw3
          have r0 := HB3.out.cellv 0 (v := .int .i64 (b * x)) rfl
          have r1 := HB3.out.cellv 1 (v := .int .i64 y) rfl
          go_wp2_with fail
          refine (f73_c _ _ _ _).mono ?_
          rintro e w4 ⟨rfl, rfl⟩
          rcases Bool.eq_false_or_eq_true (withinB (b * x) (-60000) 60000) with hi | hi
          · rw [hi]
            have Hi2 : Hid (scOk b l[q] = true) := Lib.hid (by rw [Hok.out, hi])
            clear hi
            have H4 := Lib.hid (World.ownsRow.alloc H3.out (.cells #[.int .i64 (b * x), .int .i64 y] 66))
            have Hn := Lib.hid (reads_atoms (atoms_new1 w3 ⟨b * x, y⟩ 66))
            have hszx := hEb.size
            go_wp2_with (at_builtin; refine wpList_append_any _ rfl (.tmp 41) (.tmp 43) 22 rfl w.heap.size 66 i0 _ 2 16 Try.underlying22 Hi.out.1 Hi.out.2.1 Hi.out.2.2.1 Hi.out.2.2.2 rfl (by omega) _ q _ rfl H4.out _ (some ⟨w3.heap.size, 0, none⟩) 1 1 (atomV [⟨b * x, y⟩]) rfl Hn.out (atomV_one_cell _) (by unfold maxLen; omega) (by omega) (by simp; omega) ?_; intro v' w5 hown hgrow hat; have hE5 := ext_append hEb H3.out (Nat.le_refl _) hgrow; have H5 : Hid (w5.ownsRow w.heap.size 66 2 v' (q + 1) (atomV (scaleL (l.take (q + 1)) b))) := (by rw [Hts.out, atomV_append]; exact hown); clear hat hgrow hown)
            go_roundw
            case rel =>
              refine ⟨q + 1, by omega, by go_num, hE5, H5, fun j hj hjq => ?_⟩
              rcases Nat.lt_or_ge j q with h | h
              · exact Hq.out j hj h
              · obtain rfl : j = q := by omega
                exact Hi2.out
            case measure => simp [intOf]; omega
          · rw [hi]
            have Hi2 : Hid (l.all (scOk b) = false) := Lib.hid (by
              rw [List.all_eq_false]; exact ⟨_, List.getElem_mem hlt, by rw [Hok.out, hi]; simp⟩)
            clear hi
            go_wp2_with fail
            go_ret2
            exact scale_bad (by unfold scaleErr; rw [H0.out, HW.out, Hi2.out]; simp) (by omega) hEb
        · obtain rfl : q = l.length := by omega
          have Hall : Hid (l.all (scOk b) = true) := Lib.hid (by
            rw [List.all_eq_true]; intro x hx; obtain ⟨j, hj, rfl⟩ := List.getElem_of_mem hx; exact Hq.out j hj hj)
          have H2 := H.out
          rw [List.take_length] at H2
          have H3 := Lib.hid H2
          have He : Hid (scaleErr l b = 0) := Lib.hid (by unfold scaleErr; rw [H0.out, HW.out, Hall.out]; simp)
          obtain ⟨av, cv, rfl⟩ := slice_form H2
          clear H H2
          go_wp2_with fail
          go_ret2
          refine ⟨_, ret_vi rfl He.out.symm, ?_, hE⟩
          unfold scaleV
          rw [if_pos He.out, scaleL_length]
          exact H3.out
    · rw [hb]
      have HW := Lib.hid hb
      clear hb
      go_wp2_with fail
      go_ret2
      exact scale_bad (by unfold scaleErr; rw [H0.out, HW.out]; simp) (by omega) hE1
  · have hb : (valAtoms l != 0) = true := by simp [h0]
    have H0 := Lib.hid h0
    clear h0
    go_wp2_with fail
    go_ret2
    exact scale_bad (by unfold scaleErr; rw [if_pos H0.out]) H0.out hE1

end Go.Proofs.Ytgnjaapjaglleaa
