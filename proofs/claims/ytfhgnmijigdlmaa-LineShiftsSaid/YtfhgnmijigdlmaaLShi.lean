/- Shifts and mirrors, walked. -/
import Derived.Test.YtfhgnmijigdlmaaT18
namespace Go.Proofs.Ytfhgnmijigdlmaa
open Go.RowKit
attribute [local go_sem] GW.cell
theorem shift_law {l : List Atom} {d : Int} (h : shiftErr l d = 0) : shiftV (shiftV l d) (-d) = l ∧ shiftErr (shiftV l d) (-d) = 0 := by
  have e : shiftV l d = shiftL l d := by unfold shiftV; rw [if_pos h]
  have h2 := shift_back_ok h
  rw [e]
  exact ⟨by unfold shiftV; rw [if_pos h2, shift_back], h2⟩
theorem mirror_law {l : List Atom} (h : valLoad l = 0) : mirrorV (mirrorV l) = l ∧ valLoad (mirrorV l) = 0 := by
  have e : mirrorV l = mirrorL l := by unfold mirrorV; rw [if_pos h]
  have h2 := mirror_valid h
  rw [e]
  exact ⟨by unfold mirrorV; rw [if_pos h2, mirror_back], h2⟩
theorem shift_err0 {l : List Atom} {d : Int} (h : valLoad l ≠ 0) : shiftErr l d = valLoad l ∧ shiftV l d = [] := by
  have e : shiftErr l d = valLoad l := by unfold shiftErr; rw [if_pos h]
  exact ⟨e, by unfold shiftV; rw [e, if_neg h]⟩
theorem shiftV_len (l : List Atom) (d : Int) (h : l.length ≤ 100) : (shiftV l d).length ≤ 100 := by
  unfold shiftV; split
  · simpa [shiftL] using h
  · simp
theorem mirrorV_len (l : List Atom) (h : l.length ≤ 100) : (mirrorV l).length ≤ 100 := by
  unfold mirrorV; split
  · simpa [mirrorL] using h
  · simp
theorem shift_small {l : List Atom} {d : Int} (h : shiftErr l d = 0) (h0 : l ≠ []) : -2000 ≤ d ∧ d ≤ 2000 := by
  obtain ⟨h1, h2⟩ := shiftErr_ok h
  obtain ⟨x, t, rfl⟩ := List.exists_cons_of_ne_nil h0
  have a1 := ((valLoad_in h1).2.1 x List.mem_cons_self).1
  unfold shiftOk at h2
  rw [List.all_eq_true] at h2
  have a2 := withinB_iff.1 (h2 x List.mem_cons_self)
  omega
theorem atoms_row_at {w : World} {base : Nat} {a : Option Addr} {c n : Nat} {L : List Atom} (h : w.ownsRow base 50 2 (.slice a n c) L.length (atomV L)) : Atoms w a L := by
  obtain ⟨a', c', e, hA⟩ := atoms_of_row h
  simp only [Value.slice.injEq] at e
  obtain ⟨rfl, -, rfl⟩ := e
  exact hA
set_option maxRecDepth 20000 in
set_option maxHeartbeats 16000000 in
theorem shifts_walk (w : World) (a1 : Option Addr) (n1 c1 : Nat) (l1 : List Atom) (hl1 : Atoms w a1 l1) (hn1 : l1.length = n1) (d : Int) :
    Calls Try.prog 8 #[.slice a1 n1 c1, .int .i64 d] w fun e w' => e = .returned (.bool true) ∧ Below w.heap.size w w' := by
  cases hL : longB n1 0
  case true =>
    clear hn1
    go_enter Try.func8, Try.ntmps8
    go_wp2_with fail
    refine (f18_c _ _ _ _ _ _ _).mono ?_
    rintro e w' ⟨rfl, rfl⟩
    rw [hL]
    go_wp2_with fail
    refine (f19_c _).mono ?_
    rintro e w9 ⟨rfl, hE9⟩
    go_wp2_with fail
    go_ret
    exact ⟨rfl, hE9⟩
  obtain ⟨b1, -⟩ := longB_no hL
  obtain ⟨i0, hi⟩ := info_parts info50
  have Hi := Lib.hid hi
  clear hi
  have HR0 := Lib.hid (row_empty w 50 2)
  have hrd := reads_atoms (hl1.ext (ext_alloc w (.cells #[] 50)))
  rw [hn1] at hrd
  have HRd := Lib.hid hrd
  clear hrd
  have C35 := fun (a : Option Addr) (c : Nat) (W : World) (h : Atoms W a l1) => f35_c a n1 c l1 d W h hn1 (by omega)
  have C36 := fun W (h : Ext w W) => f36_c a1 n1 c1 l1 d W (hl1.ext h) hn1 (by omega)
  have C37 := fun (a : Option Addr) (c : Nat) (W : World) (h : Atoms W a l1) => f37_c a n1 c l1 W h hn1 (by omega)
  have C38 := fun W (h : Ext w W) => f38_c a1 n1 c1 l1 W (hl1.ext h) hn1 (by omega)
  have lA := shiftV_len l1 d (by omega)
  have lC := mirrorV_len l1 (by omega)
  have lG := mirrorV_len (mirrorV l1) lC
  have C37b := fun (a : Option Addr) (c : Nat) (W : World) (h : Atoms W a (mirrorV l1)) => f37_c a (mirrorV l1).length c (mirrorV l1) W h rfl (by omega)
  have C35b := fun (a : Option Addr) (c : Nat) (W : World) (h : Atoms W a (shiftV l1 d)) => f35_c a (shiftV l1 d).length c (shiftV l1 d) (-d) W h rfl (by omega)
  have CS := Lib.hid (fun (a b : Option Addr) (n m c d' : Nat) (W : World) (l : List Atom) => fun (hl : Atoms W a l) (hk : Atoms W b l) (hn : l.length = n) (hm : l.length = m) (h1 : n ≤ 140737488355328) (h2 : m ≤ 140737488355328) => f30_c a b n m c d' l l W hl hk hn hm h1 h2)
  simp only [decide_true] at CS
  have Hn1 := Lib.hid hn1
  have h0n : l1 = [] → n1 = 0 := fun h => by rw [← hn1, h]; rfl
  have h0m : l1 ≠ [] → 0 < n1 := fun h => by rw [← hn1]; exact List.length_pos_iff.2 h
  have H0n := Lib.hid h0n
  have H0m := Lib.hid h0m
  have hl100 : l1.length ≤ 100 := by omega
  clear hn1 h0n h0m
  by_cases hv : valLoad l1 = 0
  case neg =>
    obtain ⟨s1, s2⟩ := shift_err0 (d := d) hv
    rw [s1, s2] at C35 C36
    have hm : mirrorV l1 = [] := by unfold mirrorV; rw [if_neg hv]
    have g1 : (valLoad l1 == 0) = false := by simpa using hv
    obtain ⟨A, hA0⟩ : ∃ A : List Atom, A = [] := ⟨_, rfl⟩
    rw [← hA0] at C35 C36
    have lA : A.length ≤ 100 := by rw [hA0]; simp
    have C35 := Lib.hid C35
    have C36 := Lib.hid C36
    have C37 := Lib.hid C37
    have C38 := Lib.hid C38
    have C37b := Lib.hid C37b
    clear hv s1 s2 hm C35b hA0
    generalize valLoad (mirrorV l1) = EG at *
    generalize mirrorV (mirrorV l1) = AG at *
    generalize mirrorV l1 = C at *
    generalize valLoad l1 = EC at *
    go_enter Try.func8, Try.ntmps8
    go_wp2_with fail
    refine (f18_c _ _ _ _ _ _ _).mono ?_
    rintro e w' ⟨rfl, rfl⟩
    rw [hL]
    go_wp2_with (at_builtin; refine wpList_append_any _ rfl (.tmp 22) (.tmp 23) 22 rfl w.heap.size 50 i0 _ 2 16 Try.underlying22 Hi.out.1 Hi.out.2.1 Hi.out.2.2.1 Hi.out.2.2.2 rfl (by omega) (.slice (some ⟨w.heap.size, 0, none⟩) 0 0) 0 [] rfl HR0.out _ a1 n1 c1 (atomV l1) rfl HRd.out (atomV_one_cell l1) (by unfold maxLen; omega) (by omega) (by simp) ?_; intro vo w1 hown hgrow hat; have hE1 := ext_grow (ext_alloc w (.cells #[] 50)) HR0.out (Nat.le_refl _) hgrow; have HO := Lib.hid (show ∃ ao co, vo = .slice ao n1 co ∧ Atoms w1 ao l1 by (obtain ⟨x, y, e, hA⟩ := atoms_of_row (l := l1) (by simpa using hown); exact ⟨x, y, by rw [e, Hn1.out], hA⟩)); clear hat hgrow hown; obtain ⟨ao, co, eo, hAo⟩ := HO.out; subst eo; have HAo := Lib.hid hAo; clear hAo HO)
    refine (C35.out ao co w1 HAo.out).mono ?_
    rintro e w2 ⟨aA, cA, rfl, hrA, hX2⟩
    have HrA := Lib.hid hrA
    clear hrA
    have hE2 := hE1.trans' hX2
    go_wp2_with fail
    refine (C36.out w2 hE2).mono ?_
    rintro e w3 hR3
    obtain ⟨aB, cB, rfl, hAB, hX3⟩ := hR3.open_
    clear hR3
    have HAB := Lib.hid hAB
    clear hAB
    have hY3 := hX2.trans' hX3
    go_wp2_with fail
    refine (C37.out ao co w3 (HAo.out.ext hY3)).mono ?_
    rintro e w4 hR4
    obtain ⟨aC, cC, rfl, hAC, hX4⟩ := hR4.open_
    clear hR4
    have HAC := Lib.hid hAC
    clear hAC
    have hY4 := hY3.trans' hX4
    go_wp2_with fail
    refine (C38.out w4 (hE1.trans' hY4)).mono ?_
    rintro e w5 hR5
    obtain ⟨aD, cD, rfl, hAD, hX5⟩ := hR5.open_
    clear hR5
    have HAD := Lib.hid hAD
    clear hAD
    have hY5 := hY4.trans' hX5
    have HA5 := Lib.hid (row_ext HrA.out (hX3.trans' (hX4.trans' hX5)))
    have HA5a := Lib.hid (atoms_row_at HA5.out)
    go_wp2_with fail
    refine (CS.out _ _ _ _ _ _ _ _ HA5a.out (HAB.out.ext (hX4.trans' hX5)) rfl rfl (by omega) (by omega)).mono ?_
    rintro e w6 ⟨rfl, hX6⟩
    have hY6 := hY5.trans' hX6
    go_wp2_with fail
    refine (CS.out _ _ _ _ _ _ _ _ (HAC.out.ext (hX5.trans' hX6)) (HAD.out.ext hX6) rfl rfl (by omega) (by omega)).mono ?_
    rintro e w7 ⟨rfl, hX7⟩
    have hY7 := hY6.trans' hX7
    go_wp2_with fail
    refine (C37b.out _ _ w7 (HAC.out.ext (hX5.trans' (hX6.trans' hX7)))).mono ?_
    rintro e w8 hR8
    obtain ⟨aG, cG, rfl, hAG, hX8⟩ := hR8.open_
    clear hR8
    have HAG := Lib.hid hAG
    clear hAG
    have hY8 := hY7.trans' hX8
    have HA8 := Lib.hid (row_ext HA5.out (hX6.trans' (hX7.trans' hX8)))
    go_wp2_with fail
    go_loopw [18] (fun i wr => ∃ k : Nat, k ≤ A.length ∧ i = .int .i64 k ∧ Ext w1 wr ∧ Hid (∃ xs, wr.ownsRow w1.heap.size 50 2 (.slice aA A.length cA) A.length xs)) (fun i _ => A.length - (intOf i).toNat)
    case atStart => exact ⟨0, Nat.zero_le _, rfl, hY8, Lib.hid ⟨_, HA8.out⟩⟩
    case round =>
      obtain ⟨k, hk, rfl, hE, H⟩ := hrel
      obtain ⟨xs, hx⟩ := H.out
      by_cases hlt : k < A.length
      · obtain ⟨g, cap, he, hg1, hg2⟩ := ownsRow_form hx (by omega)
        simp only [Value.slice.injEq, true_and] at he
        obtain ⟨rfl, rfl⟩ := he
        have hxl : k * 2 + 1 < xs.length := by rw [hx.1]; omega
        have hcell := (hx.cellAt (k * 2 + 1) (by omega)).trans (List.getElem?_eq_getElem hxl)
        have hfz := hx.frozenAt (k * 2 + 1)
        have Hst := Lib.hid (hx.stored (k * 2 + 1) (.int .i64 (-1))).1
        have hEs := hE.setCell (p := ⟨g, k * 2 + 1, none⟩) hg1 (.int .i64 (-1))
        generalize xs[k * 2 + 1] = vv at *
        clear hx H
        go_wp2_with fail
        go_roundw
        case rel => exact ⟨k + 1, by omega, by go_num, hEs, Lib.hid ⟨_, Hst.out⟩⟩
        case measure => simp [intOf]; omega
      · obtain rfl : k = A.length := by omega
        clear hx H
        go_wp2_with fail
        refine (CS.out _ _ _ _ _ _ _ _ (HAo.out.ext hE) (hl1.ext (hE1.trans' hE)) Hn1.out Hn1.out (by omega) (by omega)).mono ?_
        rintro e wU ⟨rfl, hXU⟩
        go_wp2_with fail
        refine (f19_c _).mono ?_
        rintro e w9 ⟨rfl, hE9⟩
        go_wp2_with fail
        go_ret
        exact ⟨rfl, (hE1.trans' (hE.trans' hXU)).trans' hE9⟩

  obtain ⟨m1, m2⟩ := mirror_law hv
  rw [m1, m2] at C37b
  rw [hv] at C37 C38
  have C37 := Lib.hid C37
  have C38 := Lib.hid C38
  have C37b := Lib.hid C37b
  by_cases he : shiftErr l1 d = 0
  case neg =>
    have g2 : (shiftErr l1 d == 0) = false := by simpa using he
    have C35 := Lib.hid C35
    have C36 := Lib.hid C36
    clear hv he m1 m2 C35b lG
    generalize shiftErr l1 d = EA at *
    generalize shiftV l1 d = A at *
    generalize mirrorV l1 = C at *
    go_enter Try.func8, Try.ntmps8
    go_wp2_with fail
    refine (f18_c _ _ _ _ _ _ _).mono ?_
    rintro e w' ⟨rfl, rfl⟩
    rw [hL]
    go_wp2_with (at_builtin; refine wpList_append_any _ rfl (.tmp 22) (.tmp 23) 22 rfl w.heap.size 50 i0 _ 2 16 Try.underlying22 Hi.out.1 Hi.out.2.1 Hi.out.2.2.1 Hi.out.2.2.2 rfl (by omega) (.slice (some ⟨w.heap.size, 0, none⟩) 0 0) 0 [] rfl HR0.out _ a1 n1 c1 (atomV l1) rfl HRd.out (atomV_one_cell l1) (by unfold maxLen; omega) (by omega) (by simp) ?_; intro vo w1 hown hgrow hat; have hE1 := ext_grow (ext_alloc w (.cells #[] 50)) HR0.out (Nat.le_refl _) hgrow; have HO := Lib.hid (show ∃ ao co, vo = .slice ao n1 co ∧ Atoms w1 ao l1 by (obtain ⟨x, y, e, hA⟩ := atoms_of_row (l := l1) (by simpa using hown); exact ⟨x, y, by rw [e, Hn1.out], hA⟩)); clear hat hgrow hown; obtain ⟨ao, co, eo, hAo⟩ := HO.out; subst eo; have HAo := Lib.hid hAo; clear hAo HO)
    refine (C35.out ao co w1 HAo.out).mono ?_
    rintro e w2 ⟨aA, cA, rfl, hrA, hX2⟩
    have HrA := Lib.hid hrA
    clear hrA
    have hE2 := hE1.trans' hX2
    go_wp2_with fail
    refine (C36.out w2 hE2).mono ?_
    rintro e w3 hR3
    obtain ⟨aB, cB, rfl, hAB, hX3⟩ := hR3.open_
    clear hR3
    have HAB := Lib.hid hAB
    clear hAB
    have hY3 := hX2.trans' hX3
    go_wp2_with fail
    refine (C37.out ao co w3 (HAo.out.ext hY3)).mono ?_
    rintro e w4 hR4
    obtain ⟨aC, cC, rfl, hAC, hX4⟩ := hR4.open_
    clear hR4
    have HAC := Lib.hid hAC
    clear hAC
    have hY4 := hY3.trans' hX4
    go_wp2_with fail
    refine (C38.out w4 (hE1.trans' hY4)).mono ?_
    rintro e w5 hR5
    obtain ⟨aD, cD, rfl, hAD, hX5⟩ := hR5.open_
    clear hR5
    have HAD := Lib.hid hAD
    clear hAD
    have hY5 := hY4.trans' hX5
    have HA5 := Lib.hid (row_ext HrA.out (hX3.trans' (hX4.trans' hX5)))
    have HA5a := Lib.hid (atoms_row_at HA5.out)
    go_wp2_with fail
    refine (CS.out _ _ _ _ _ _ _ _ HA5a.out (HAB.out.ext (hX4.trans' hX5)) rfl rfl (by omega) (by omega)).mono ?_
    rintro e w6 ⟨rfl, hX6⟩
    have hY6 := hY5.trans' hX6
    go_wp2_with fail
    refine (CS.out _ _ _ _ _ _ _ _ (HAC.out.ext (hX5.trans' hX6)) (HAD.out.ext hX6) rfl rfl (by omega) (by omega)).mono ?_
    rintro e w7 ⟨rfl, hX7⟩
    have hY7 := hY6.trans' hX7
    go_wp2_with fail
    refine (C37b.out _ _ w7 (HAC.out.ext (hX5.trans' (hX6.trans' hX7)))).mono ?_
    rintro e w8 hR8
    obtain ⟨aG, cG, rfl, hAG, hX8⟩ := hR8.open_
    clear hR8
    have HAG := Lib.hid hAG
    clear hAG
    have hY8 := hY7.trans' hX8
    have HA8 := Lib.hid (row_ext HA5.out (hX6.trans' (hX7.trans' hX8)))
    go_wp2_with fail
    refine (CS.out _ _ _ _ _ _ _ _ HAG.out (hl1.ext (hE1.trans' hY8)) rfl Hn1.out (by omega) (by omega)).mono ?_
    rintro e wX ⟨rfl, hXX⟩
    have hY8 := hY8.trans' hXX
    have HA8 := Lib.hid (row_ext HA8.out hXX)
    go_wp2_with fail
    go_loopw [18] (fun i wr => ∃ k : Nat, k ≤ A.length ∧ i = .int .i64 k ∧ Ext w1 wr ∧ Hid (∃ xs, wr.ownsRow w1.heap.size 50 2 (.slice aA A.length cA) A.length xs)) (fun i _ => A.length - (intOf i).toNat)
    case atStart => exact ⟨0, Nat.zero_le _, rfl, hY8, Lib.hid ⟨_, HA8.out⟩⟩
    case round =>
      obtain ⟨k, hk, rfl, hE, H⟩ := hrel
      obtain ⟨xs, hx⟩ := H.out
      by_cases hlt : k < A.length
      · obtain ⟨g, cap, he, hg1, hg2⟩ := ownsRow_form hx (by omega)
        simp only [Value.slice.injEq, true_and] at he
        obtain ⟨rfl, rfl⟩ := he
        have hxl : k * 2 + 1 < xs.length := by rw [hx.1]; omega
        have hcell := (hx.cellAt (k * 2 + 1) (by omega)).trans (List.getElem?_eq_getElem hxl)
        have hfz := hx.frozenAt (k * 2 + 1)
        have Hst := Lib.hid (hx.stored (k * 2 + 1) (.int .i64 (-1))).1
        have hEs := hE.setCell (p := ⟨g, k * 2 + 1, none⟩) hg1 (.int .i64 (-1))
        generalize xs[k * 2 + 1] = vv at *
        clear hx H
        go_wp2_with fail
        go_roundw
        case rel => exact ⟨k + 1, by omega, by go_num, hEs, Lib.hid ⟨_, Hst.out⟩⟩
        case measure => simp [intOf]; omega
      · obtain rfl : k = A.length := by omega
        clear hx H
        go_wp2_with fail
        refine (CS.out _ _ _ _ _ _ _ _ (HAo.out.ext hE) (hl1.ext (hE1.trans' hE)) Hn1.out Hn1.out (by omega) (by omega)).mono ?_
        rintro e wU ⟨rfl, hXU⟩
        go_wp2_with fail
        refine (f19_c _).mono ?_
        rintro e w9 ⟨rfl, hE9⟩
        go_wp2_with fail
        go_ret
        exact ⟨rfl, (hE1.trans' (hE.trans' hXU)).trans' hE9⟩

  rw [he] at C35 C36
  have C35 := Lib.hid C35
  have C36 := Lib.hid C36
  by_cases h0 : l1 = []
  · have hn0 : n1 = 0 := H0n.out h0
    have d0 : decide (0 < (n1 : Int)) = false := by simp; omega
    have d1 : decide (0 < n1) = false := by simp; omega
    clear hv he m1 m2 C35b lG h0 hn0
    generalize shiftV l1 d = A at *
    generalize mirrorV l1 = C at *
    go_enter Try.func8, Try.ntmps8
    go_wp2_with fail
    refine (f18_c _ _ _ _ _ _ _).mono ?_
    rintro e w' ⟨rfl, rfl⟩
    rw [hL]
    go_wp2_with (at_builtin; refine wpList_append_any _ rfl (.tmp 22) (.tmp 23) 22 rfl w.heap.size 50 i0 _ 2 16 Try.underlying22 Hi.out.1 Hi.out.2.1 Hi.out.2.2.1 Hi.out.2.2.2 rfl (by omega) (.slice (some ⟨w.heap.size, 0, none⟩) 0 0) 0 [] rfl HR0.out _ a1 n1 c1 (atomV l1) rfl HRd.out (atomV_one_cell l1) (by unfold maxLen; omega) (by omega) (by simp) ?_; intro vo w1 hown hgrow hat; have hE1 := ext_grow (ext_alloc w (.cells #[] 50)) HR0.out (Nat.le_refl _) hgrow; have HO := Lib.hid (show ∃ ao co, vo = .slice ao n1 co ∧ Atoms w1 ao l1 by (obtain ⟨x, y, e, hA⟩ := atoms_of_row (l := l1) (by simpa using hown); exact ⟨x, y, by rw [e, Hn1.out], hA⟩)); clear hat hgrow hown; obtain ⟨ao, co, eo, hAo⟩ := HO.out; subst eo; have HAo := Lib.hid hAo; clear hAo HO)
    refine (C35.out ao co w1 HAo.out).mono ?_
    rintro e w2 ⟨aA, cA, rfl, hrA, hX2⟩
    have HrA := Lib.hid hrA
    clear hrA
    have hE2 := hE1.trans' hX2
    go_wp2_with fail
    refine (C36.out w2 hE2).mono ?_
    rintro e w3 hR3
    obtain ⟨aB, cB, rfl, hAB, hX3⟩ := hR3.open_
    clear hR3
    have HAB := Lib.hid hAB
    clear hAB
    have hY3 := hX2.trans' hX3
    go_wp2_with fail
    refine (C37.out ao co w3 (HAo.out.ext hY3)).mono ?_
    rintro e w4 hR4
    obtain ⟨aC, cC, rfl, hAC, hX4⟩ := hR4.open_
    clear hR4
    have HAC := Lib.hid hAC
    clear hAC
    have hY4 := hY3.trans' hX4
    go_wp2_with fail
    refine (C38.out w4 (hE1.trans' hY4)).mono ?_
    rintro e w5 hR5
    obtain ⟨aD, cD, rfl, hAD, hX5⟩ := hR5.open_
    clear hR5
    have HAD := Lib.hid hAD
    clear hAD
    have hY5 := hY4.trans' hX5
    have HA5 := Lib.hid (row_ext HrA.out (hX3.trans' (hX4.trans' hX5)))
    have HA5a := Lib.hid (atoms_row_at HA5.out)
    go_wp2_with fail
    refine (CS.out _ _ _ _ _ _ _ _ HA5a.out (HAB.out.ext (hX4.trans' hX5)) rfl rfl (by omega) (by omega)).mono ?_
    rintro e w6 ⟨rfl, hX6⟩
    have hY6 := hY5.trans' hX6
    go_wp2_with fail
    refine (CS.out _ _ _ _ _ _ _ _ (HAC.out.ext (hX5.trans' hX6)) (HAD.out.ext hX6) rfl rfl (by omega) (by omega)).mono ?_
    rintro e w7 ⟨rfl, hX7⟩
    have hY7 := hY6.trans' hX7
    go_wp2_with fail
    refine (C37b.out _ _ w7 (HAC.out.ext (hX5.trans' (hX6.trans' hX7)))).mono ?_
    rintro e w8 hR8
    obtain ⟨aG, cG, rfl, hAG, hX8⟩ := hR8.open_
    clear hR8
    have HAG := Lib.hid hAG
    clear hAG
    have hY8 := hY7.trans' hX8
    have HA8 := Lib.hid (row_ext HA5.out (hX6.trans' (hX7.trans' hX8)))
    go_wp2_with fail
    refine (CS.out _ _ _ _ _ _ _ _ HAG.out (hl1.ext (hE1.trans' hY8)) rfl Hn1.out (by omega) (by omega)).mono ?_
    rintro e wX ⟨rfl, hXX⟩
    have hY8 := hY8.trans' hXX
    have HA8 := Lib.hid (row_ext HA8.out hXX)
    go_wp2_with fail
    go_loopw [18] (fun i wr => ∃ k : Nat, k ≤ A.length ∧ i = .int .i64 k ∧ Ext w1 wr ∧ Hid (∃ xs, wr.ownsRow w1.heap.size 50 2 (.slice aA A.length cA) A.length xs)) (fun i _ => A.length - (intOf i).toNat)
    case atStart => exact ⟨0, Nat.zero_le _, rfl, hY8, Lib.hid ⟨_, HA8.out⟩⟩
    case round =>
      obtain ⟨k, hk, rfl, hE, H⟩ := hrel
      obtain ⟨xs, hx⟩ := H.out
      by_cases hlt : k < A.length
      · obtain ⟨g, cap, he, hg1, hg2⟩ := ownsRow_form hx (by omega)
        simp only [Value.slice.injEq, true_and] at he
        obtain ⟨rfl, rfl⟩ := he
        have hxl : k * 2 + 1 < xs.length := by rw [hx.1]; omega
        have hcell := (hx.cellAt (k * 2 + 1) (by omega)).trans (List.getElem?_eq_getElem hxl)
        have hfz := hx.frozenAt (k * 2 + 1)
        have Hst := Lib.hid (hx.stored (k * 2 + 1) (.int .i64 (-1))).1
        have hEs := hE.setCell (p := ⟨g, k * 2 + 1, none⟩) hg1 (.int .i64 (-1))
        generalize xs[k * 2 + 1] = vv at *
        clear hx H
        go_wp2_with fail
        go_roundw
        case rel => exact ⟨k + 1, by omega, by go_num, hEs, Lib.hid ⟨_, Hst.out⟩⟩
        case measure => simp [intOf]; omega
      · obtain rfl : k = A.length := by omega
        clear hx H
        go_wp2_with fail
        refine (CS.out _ _ _ _ _ _ _ _ (HAo.out.ext hE) (hl1.ext (hE1.trans' hE)) Hn1.out Hn1.out (by omega) (by omega)).mono ?_
        rintro e wU ⟨rfl, hXU⟩
        go_wp2_with fail
        refine (f19_c _).mono ?_
        rintro e w9 ⟨rfl, hE9⟩
        go_wp2_with fail
        go_ret
        exact ⟨rfl, (hE1.trans' (hE.trans' hXU)).trans' hE9⟩

  obtain ⟨q1, q2⟩ := shift_law he
  have hd := shift_small he h0
  rw [q1, q2] at C35b
  have C35b := Lib.hid C35b
  have hn0 : 0 < n1 := H0m.out h0
  have d0 : decide (0 < (n1 : Int)) = true := by simp; omega
  have d1 : decide (0 < n1) = true := by simpa using hn0
  clear hv he m1 m2 lG h0 q1 q2
  generalize shiftV l1 d = A at *
  generalize mirrorV l1 = C at *
  go_enter Try.func8, Try.ntmps8
  go_wp2_with fail
  refine (f18_c _ _ _ _ _ _ _).mono ?_
  rintro e w' ⟨rfl, rfl⟩
  rw [hL]
  go_wp2_with (at_builtin; refine wpList_append_any _ rfl (.tmp 22) (.tmp 23) 22 rfl w.heap.size 50 i0 _ 2 16 Try.underlying22 Hi.out.1 Hi.out.2.1 Hi.out.2.2.1 Hi.out.2.2.2 rfl (by omega) (.slice (some ⟨w.heap.size, 0, none⟩) 0 0) 0 [] rfl HR0.out _ a1 n1 c1 (atomV l1) rfl HRd.out (atomV_one_cell l1) (by unfold maxLen; omega) (by omega) (by simp) ?_; intro vo w1 hown hgrow hat; have hE1 := ext_grow (ext_alloc w (.cells #[] 50)) HR0.out (Nat.le_refl _) hgrow; have HO := Lib.hid (show ∃ ao co, vo = .slice ao n1 co ∧ Atoms w1 ao l1 by (obtain ⟨x, y, e, hA⟩ := atoms_of_row (l := l1) (by simpa using hown); exact ⟨x, y, by rw [e, Hn1.out], hA⟩)); clear hat hgrow hown; obtain ⟨ao, co, eo, hAo⟩ := HO.out; subst eo; have HAo := Lib.hid hAo; clear hAo HO)
  refine (C35.out ao co w1 HAo.out).mono ?_
  rintro e w2 ⟨aA, cA, rfl, hrA, hX2⟩
  have HrA := Lib.hid hrA
  clear hrA
  have hE2 := hE1.trans' hX2
  go_wp2_with fail
  refine (C36.out w2 hE2).mono ?_
  rintro e w3 hR3
  obtain ⟨aB, cB, rfl, hAB, hX3⟩ := hR3.open_
  clear hR3
  have HAB := Lib.hid hAB
  clear hAB
  have hY3 := hX2.trans' hX3
  go_wp2_with fail
  refine (C37.out ao co w3 (HAo.out.ext hY3)).mono ?_
  rintro e w4 hR4
  obtain ⟨aC, cC, rfl, hAC, hX4⟩ := hR4.open_
  clear hR4
  have HAC := Lib.hid hAC
  clear hAC
  have hY4 := hY3.trans' hX4
  go_wp2_with fail
  refine (C38.out w4 (hE1.trans' hY4)).mono ?_
  rintro e w5 hR5
  obtain ⟨aD, cD, rfl, hAD, hX5⟩ := hR5.open_
  clear hR5
  have HAD := Lib.hid hAD
  clear hAD
  have hY5 := hY4.trans' hX5
  have HA5 := Lib.hid (row_ext HrA.out (hX3.trans' (hX4.trans' hX5)))
  have HA5a := Lib.hid (atoms_row_at HA5.out)
  go_wp2_with fail
  refine (CS.out _ _ _ _ _ _ _ _ HA5a.out (HAB.out.ext (hX4.trans' hX5)) rfl rfl (by omega) (by omega)).mono ?_
  rintro e w6 ⟨rfl, hX6⟩
  have hY6 := hY5.trans' hX6
  go_wp2_with fail
  refine (CS.out _ _ _ _ _ _ _ _ (HAC.out.ext (hX5.trans' hX6)) (HAD.out.ext hX6) rfl rfl (by omega) (by omega)).mono ?_
  rintro e w7 ⟨rfl, hX7⟩
  have hY7 := hY6.trans' hX7
  go_wp2_with fail
  refine (C37b.out _ _ w7 (HAC.out.ext (hX5.trans' (hX6.trans' hX7)))).mono ?_
  rintro e w8 hR8
  obtain ⟨aG, cG, rfl, hAG, hX8⟩ := hR8.open_
  clear hR8
  have HAG := Lib.hid hAG
  clear hAG
  have hY8 := hY7.trans' hX8
  have HA8 := Lib.hid (row_ext HA5.out (hX6.trans' (hX7.trans' hX8)))
  go_wp2_with fail
  refine (CS.out _ _ _ _ _ _ _ _ HAG.out (hl1.ext (hE1.trans' hY8)) rfl Hn1.out (by omega) (by omega)).mono ?_
  rintro e wX ⟨rfl, hXX⟩
  have hY8 := hY8.trans' hXX
  have HA8 := Lib.hid (row_ext HA8.out hXX)
  go_wp2_with fail
  refine (C35b.out _ _ _ (atoms_row_at HA8.out)).mono ?_
  rintro e wY hRY
  obtain ⟨aY, cY, rfl, hAY, hXY⟩ := hRY.open_
  clear hRY
  have HAY := Lib.hid hAY
  clear hAY
  have hY8 := hY8.trans' hXY
  have HA8 := Lib.hid (row_ext HA8.out hXY)
  go_wp2_with fail
  refine (CS.out _ _ _ _ _ _ _ _ HAY.out (hl1.ext (hE1.trans' hY8)) rfl Hn1.out (by omega) (by omega)).mono ?_
  rintro e wZ ⟨rfl, hXZ⟩
  have hY8 := hY8.trans' hXZ
  have HA8 := Lib.hid (row_ext HA8.out hXZ)
  go_wp2_with fail
  go_loopw [18] (fun i wr => ∃ k : Nat, k ≤ A.length ∧ i = .int .i64 k ∧ Ext w1 wr ∧ Hid (∃ xs, wr.ownsRow w1.heap.size 50 2 (.slice aA A.length cA) A.length xs)) (fun i _ => A.length - (intOf i).toNat)
  case atStart => exact ⟨0, Nat.zero_le _, rfl, hY8, Lib.hid ⟨_, HA8.out⟩⟩
  case round =>
    obtain ⟨k, hk, rfl, hE, H⟩ := hrel
    obtain ⟨xs, hx⟩ := H.out
    by_cases hlt : k < A.length
    · obtain ⟨g, cap, he, hg1, hg2⟩ := ownsRow_form hx (by omega)
      simp only [Value.slice.injEq, true_and] at he
      obtain ⟨rfl, rfl⟩ := he
      have hxl : k * 2 + 1 < xs.length := by rw [hx.1]; omega
      have hcell := (hx.cellAt (k * 2 + 1) (by omega)).trans (List.getElem?_eq_getElem hxl)
      have hfz := hx.frozenAt (k * 2 + 1)
      have Hst := Lib.hid (hx.stored (k * 2 + 1) (.int .i64 (-1))).1
      have hEs := hE.setCell (p := ⟨g, k * 2 + 1, none⟩) hg1 (.int .i64 (-1))
      generalize xs[k * 2 + 1] = vv at *
      clear hx H
      go_wp2_with fail
      go_roundw
      case rel => exact ⟨k + 1, by omega, by go_num, hEs, Lib.hid ⟨_, Hst.out⟩⟩
      case measure => simp [intOf]; omega
    · obtain rfl : k = A.length := by omega
      clear hx H
      go_wp2_with fail
      refine (CS.out _ _ _ _ _ _ _ _ (HAo.out.ext hE) (hl1.ext (hE1.trans' hE)) Hn1.out Hn1.out (by omega) (by omega)).mono ?_
      rintro e wU ⟨rfl, hXU⟩
      go_wp2_with fail
      refine (f19_c _).mono ?_
      rintro e w9 ⟨rfl, hE9⟩
      go_wp2_with fail
      go_ret
      exact ⟨rfl, (hE1.trans' (hE.trans' hXU)).trans' hE9⟩

end Go.Proofs.Ytfhgnmijigdlmaa