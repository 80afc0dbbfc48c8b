/- Contracts of the line: Join. -/
import Derived.Test.YtfhgnmijigdlmaaT19
namespace Go.Proofs.Ytfhgnmijigdlmaa
open Go.RowKit
attribute [local go_sem] GW.cell
theorem join_len (a b : List Atom) : (joinL a b).length = (placesL2 a b).length := by simp [joinL]
theorem join_take {a b : List Atom} {k : Nat} (hk : k < (placesL2 a b).length) : (joinL a b).take (k + 1) = (joinL a b).take k ++ [⟨gi (placesL2 a b) k, massAt a (gi (placesL2 a b) k) + massAt b (gi (placesL2 a b) k)⟩] := by
  unfold joinL
  generalize placesL2 a b = L at *
  rw [List.take_succ_eq_append_getElem (by simpa using hk)]
  congr 2
  rw [List.getElem_map, gi_at, List.getElem?_eq_getElem hk, Option.getD_some]
set_option maxRecDepth 20000 in
set_option maxHeartbeats 8000000 in
theorem f28_c (a1 a2 : Option Addr) (n c n2 c2 : Nat) (a b : List Atom) (w : World) (hl : Atoms w a1 a) (hn : a.length = n) (hlen : n ≤ 1000000) (hm : Atoms w a2 b) (hn2 : b.length = n2) (hlen2 : n2 ≤ 1000000) :
    Calls Try.prog 28 #[.slice a1 n c, .slice a2 n2 c2] w (RetAt (joinV a b) (joinErr a b) w) := by
  have C1 := f64_c a1 a2 n c n2 c2 a b w hl hn (by omega) hm hn2 (by omega)
  by_cases hp : bothErr a b = 0
  case neg =>
    have hb : (bothErr a b != 0) = true := by simp [hp]
    have e1 : joinErr a b = bothErr a b := by unfold joinErr; rw [if_pos hp]
    rw [show joinV a b = [] by unfold joinV; rw [e1, if_neg hp], e1]
    have C1 := Lib.hid C1
    clear hp hn hn2 e1
    generalize bothErr a b = E at *
    go_enter Try.func28, Try.ntmps28
    go_wp2_with fail
    refine C1.out.mono ?_
    rintro e w1 ⟨rfl, hE1⟩
    go_wp2_with fail
    go_ret2
    exact retAt_nil hE1
  obtain ⟨v1, v2⟩ := bothErr_ok hp
  have h6a := (listErr_ok v1).1
  have h6b := (listErr_ok v2).1
  have hLl := places_len v1 v2
  have C2 := Lib.hid (fun W (hx : Ext w W) => f68_c a1 a2 n c n2 c2 a b W (hl.ext hx) hn (hm.ext hx) hn2 v1 v2)
  have C3 := Lib.hid (fun W (h : Ext w W) => f73_c a1 n c a W (hl.ext h) hn v1)
  have C4 := Lib.hid (fun W (h : Ext w W) => f73_c a2 n2 c2 b W (hm.ext h) hn2 v2)
  have e0 : joinErr a b = if 6 < (placesL2 a b).length then 3 else if valLoad (joinL a b) ≠ 0 then 1 else 0 := by unfold joinErr; rw [if_neg (by simpa using hp)]
  have F1 : 6 < (placesL2 a b).length → joinErr a b = 3 ∧ joinV a b = [] := fun h => by
    have e1 : joinErr a b = 3 := by rw [e0, if_pos h]
    exact ⟨e1, by unfold joinV; rw [e1, if_neg (by omega)]⟩
  have F2 : ¬ 6 < (placesL2 a b).length → valLoad (joinL a b) ≠ 0 → joinErr a b = 1 ∧ joinV a b = [] := fun h h2 => by
    have e1 : joinErr a b = 1 := by rw [e0, if_neg h, if_pos h2]
    exact ⟨e1, by unfold joinV; rw [e1, if_neg (by omega)]⟩
  have F3 : ¬ 6 < (placesL2 a b).length → valLoad (joinL a b) = 0 → joinErr a b = 0 ∧ joinV a b = joinL a b := fun h h2 => by
    have e1 : joinErr a b = 0 := by rw [e0, if_neg h, if_neg (by simpa using h2)]
    exact ⟨e1, by unfold joinV; rw [if_pos e1]⟩
  have F1 := Lib.hid F1
  have F2 := Lib.hid F2
  have F3 := Lib.hid F3
  rw [hp] at C1
  have C1 := Lib.hid C1
  have Hma := Lib.hid (fun p => massAt_bd (fine_load v1) p)
  have Hmb := Lib.hid (fun p => massAt_bd (fine_load v2) p)
  have HLb := Lib.hid (fun i (hi : i < (placesL2 a b).length) => places_bd hi)
  have Hjl := Lib.hid (join_len a b)
  have Hjt := Lib.hid (fun k (hk : k < (placesL2 a b).length) => join_take hk)
  obtain ⟨i0, hi0⟩ := info_parts info50
  have Hi := Lib.hid hi0
  clear hp e0 hi0
  have hL12 : (placesL2 a b).length ≤ 12 := by omega
  generalize joinL a b = JL at *
  generalize placesL2 a b = L at *
  generalize joinErr a b = EE at *
  generalize joinV a b = VV at *
  clear hn hn2
  by_cases h6 : 6 < L.length
  · obtain ⟨rfl, rfl⟩ := F1.out h6
    have d6 : decide (6 < (L.length : Int)) = true := by simp; omega
    clear F1 F2 F3
    go_enter Try.func28, Try.ntmps28
    go_wp2_with fail
    refine C1.out.mono ?_
    rintro e w1 ⟨rfl, hE1⟩
    go_wp2_with fail
    refine (C3.out _ hE1).mono ?_
    rintro e w2 ⟨B1, rfl, hM1, hB1, hX2⟩
    have hE2 := hE1.trans' hX2
    go_wp2_with fail
    refine (C4.out _ hE2).mono ?_
    rintro e w3 ⟨B2, rfl, hM2, hB2, hX3⟩
    have hE3 := hE2.trans' hX3
    go_wp2_with fail
    refine (C2.out _ hE3).mono ?_
    rintro e w4 ⟨aL, cL, rfl, hIL, hX4⟩
    have hE4 := hE3.trans' hX4
    have HM1 := Lib.hid (hM1.ext (hX3.trans' hX4))
    have HM2 := Lib.hid (hM2.ext hX4)
    have HIL := Lib.hid hIL
    clear hM1 hM2 hIL hX2 hX3 hX4
    go_wp2_with fail
    go_ret2
    exact retAt_nil hE4
  have d6 : decide (6 < (L.length : Int)) = false := by simp; omega
  go_enter Try.func28, Try.ntmps28
  go_wp2_with fail
  refine C1.out.mono ?_
  rintro e w1 ⟨rfl, hE1⟩
  go_wp2_with fail
  refine (C3.out _ hE1).mono ?_
  rintro e w2 ⟨B1, rfl, hM1, hB1, hX2⟩
  have hE2 := hE1.trans' hX2
  go_wp2_with fail
  refine (C4.out _ hE2).mono ?_
  rintro e w3 ⟨B2, rfl, hM2, hB2, hX3⟩
  have hE3 := hE2.trans' hX3
  go_wp2_with fail
  refine (C2.out _ hE3).mono ?_
  rintro e w4 ⟨aL, cL, rfl, hIL, hX4⟩
  have hE4 := hE3.trans' hX4
  have HM1 := Lib.hid (hM1.ext (hX3.trans' hX4))
  have HM2 := Lib.hid (hM2.ext hX4)
  have HIL := Lib.hid hIL
  clear hM1 hM2 hIL hX2 hX3 hX4
  go_wp2_with fail
  go_loopw [10, 12, 31] (fun v _ i wr => ∃ k : Nat, k ≤ L.length ∧ i = .int .i64 k ∧ Ext w4 wr ∧ Hid (wr.ownsRow w4.heap.size 50 2 v k (atomV (JL.take k)))) (fun _ _ i _ => L.length - (intOf i).toNat)
  case atStart => exact ⟨0, Nat.zero_le _, rfl, Below.refl _ _, World.ownsRow_nil _ _ _ _⟩
  case round =>
    obtain ⟨k, hk, rfl, hX, H⟩ := hrel
    by_cases hlt : k < L.length
    · obtain ⟨bl, ol, rfl, hbl, hcl⟩ := HIL.out.ext hX k hlt
      rw [← gi_at] at hcl
      have t5 := HLb.out k hlt
      have Ht := Lib.hid (Hjt.out k hlt)
      have L1 := (HM1.out.ext hX).look Try.underlying86 (x := gi L k) (by omega)
      have L2 := (HM2.out.ext hX).look Try.underlying86 (x := gi L k) (by omega)
      have t1 := Hma.out (gi L k)
      have t2 := Hmb.out (gi L k)
      generalize gi L k = lk at *
      generalize massAt a lk = ma at *
      generalize massAt b lk = mb at *
      have hsz := hX.size
      have Hn := Lib.hid (reads_atoms (atoms_new1 wr ⟨lk, ma + mb⟩ 50))
      have hk12 : k ≤ 12 := by omega
      go_wp2_with (at_builtin; refine wpList_append_any _ rfl (.tmp 35) (.tmp 45) 22 rfl w4.heap.size 50 i0 _ 2 16 Try.underlying22 Hi.out.1 Hi.out.2.1 Hi.out.2.2.1 Hi.out.2.2.2 rfl (by omega) _ k _ rfl (H.out.alloc _) _ (some ⟨wr.heap.size, 0, none⟩) 1 1 (atomV [⟨lk, ma + mb⟩]) rfl Hn.out (atomV_one_cell _) (by unfold maxLen; omega) (by omega) (by simp; omega) ?_; intro v' w6 hown hgrow hat; have hX6 := ext_append hX H.out (Nat.le_refl _) hgrow; rw [← atomV_append, ← Ht.out] at hown; have H6 := Lib.hid hown; clear hat hgrow hown)
      go_roundw
      case rel => exact ⟨k + 1, by omega, by go_num, hX6, H6⟩
      case measure => simp [intOf]; omega
    · obtain rfl : k = L.length := by omega
      have H2 := H.out
      rw [← Hjl.out, List.take_length] at H2
      obtain ⟨aJ, cJ, e, hA⟩ := atoms_of_row H2
      subst e
      have C5 := f47_c aJ JL.length cJ JL _ hA rfl (by have := Hjl.out; omega)
      have hE5 := hE4.trans' hX
      have H3 := Lib.hid (row_base H2 hE4.size)
      clear H H2 hA
      by_cases hv : valLoad JL = 0
      · obtain ⟨rfl, rfl⟩ := F3.out h6 hv
        rw [hv] at C5
        have C5 := Lib.hid C5
        clear F1 F2 F3 hv
        have Hg := Lib.hid Hjl.out
        go_wp2_with fail
        refine C5.out.mono ?_
        rintro e w7 ⟨rfl, hX7⟩
        have hf := Lib.hid (show RetAt VV 0 w (.returned (.tuple #[.slice aJ VV.length cJ, .int .i64 0])) w7 from ⟨aJ, cJ, rfl, row_ext H3.out hX7, hE5.trans' hX7⟩)
        go_wp2_with fail
        go_ret2
        exact hf.out
      · obtain ⟨rfl, rfl⟩ := F2.out h6 hv
        have C5 := Lib.hid C5
        have hb : (valLoad JL != 0) = true := by simp [hv]
        clear F1 F2 F3 hv
        generalize valLoad JL = EV at *
        go_wp2_with fail
        refine C5.out.mono ?_
        rintro e w7 ⟨rfl, hX7⟩
        go_wp2_with fail
        go_ret2
        exact retAt_nil (hE5.trans' hX7)

set_option maxRecDepth 20000 in
set_option maxHeartbeats 8000000 in
theorem f29_c (a1 a2 : Option Addr) (n c n2 c2 : Nat) (a b : List Atom) (w : World) (hl : Atoms w a1 a) (hn : a.length = n) (hlen : n ≤ 1000000) (hm : Atoms w a2 b) (hn2 : b.length = n2) (hlen2 : n2 ≤ 1000000) :
    Calls Try.prog 29 #[.slice a1 n c, .slice a2 n2 c2] w (RetAt (joinV a b) (joinErr a b) w) := by
  have C1 := f69_c a1 a2 n c n2 c2 a b w hl hn (by omega) hm hn2 (by omega)
  by_cases hp : bothErr a b = 0
  case neg =>
    have hb : (bothErr a b != 0) = true := by simp [hp]
    have e1 : joinErr a b = bothErr a b := by unfold joinErr; rw [if_pos hp]
    rw [show joinV a b = [] by unfold joinV; rw [e1, if_neg hp], e1]
    have C1 := Lib.hid C1
    clear hp hn hn2 e1
    generalize bothErr a b = E at *
    go_enter Try.func29, Try.ntmps29
    go_wp2_with fail
    refine C1.out.mono ?_
    rintro e w1 ⟨rfl, hE1⟩
    go_wp2_with fail
    go_ret2
    exact retAt_nil hE1
  obtain ⟨v1, v2⟩ := bothErr_ok hp
  have h6a := (listErr_ok v1).1
  have h6b := (listErr_ok v2).1
  have hLl := places_len v1 v2
  have C2 := Lib.hid (fun W (hx : Ext w W) => f70_c a1 a2 n c n2 c2 a b W (hl.ext hx) hn hlen (hm.ext hx) hn2 hlen2)
  have C3 := Lib.hid (fun p W (h : Ext w W) => f77_c a1 n c a p W (hl.ext h) hn hlen)
  have C4 := Lib.hid (fun p W (h : Ext w W) => f77_c a2 n2 c2 b p W (hm.ext h) hn2 hlen2)
  have e0 : joinErr a b = if 6 < (placesL2 a b).length then 3 else if valLoad (joinL a b) ≠ 0 then 1 else 0 := by unfold joinErr; rw [if_neg (by simpa using hp)]
  have F1 : 6 < (placesL2 a b).length → joinErr a b = 3 ∧ joinV a b = [] := fun h => by
    have e1 : joinErr a b = 3 := by rw [e0, if_pos h]
    exact ⟨e1, by unfold joinV; rw [e1, if_neg (by omega)]⟩
  have F2 : ¬ 6 < (placesL2 a b).length → valLoad (joinL a b) ≠ 0 → joinErr a b = 1 ∧ joinV a b = [] := fun h h2 => by
    have e1 : joinErr a b = 1 := by rw [e0, if_neg h, if_pos h2]
    exact ⟨e1, by unfold joinV; rw [e1, if_neg (by omega)]⟩
  have F3 : ¬ 6 < (placesL2 a b).length → valLoad (joinL a b) = 0 → joinErr a b = 0 ∧ joinV a b = joinL a b := fun h h2 => by
    have e1 : joinErr a b = 0 := by rw [e0, if_neg h, if_neg (by simpa using h2)]
    exact ⟨e1, by unfold joinV; rw [if_pos e1]⟩
  have F1 := Lib.hid F1
  have F2 := Lib.hid F2
  have F3 := Lib.hid F3
  rw [hp] at C1
  have C1 := Lib.hid C1
  have Hma := Lib.hid (fun p => massAt_bd (fine_load v1) p)
  have Hmb := Lib.hid (fun p => massAt_bd (fine_load v2) p)
  have HLb := Lib.hid (fun i (hi : i < (placesL2 a b).length) => places_bd hi)
  have Hjl := Lib.hid (join_len a b)
  have Hjt := Lib.hid (fun k (hk : k < (placesL2 a b).length) => join_take hk)
  obtain ⟨i0, hi0⟩ := info_parts info50
  have Hi := Lib.hid hi0
  clear hp e0 hi0
  have hL12 : (placesL2 a b).length ≤ 12 := by omega
  generalize joinL a b = JL at *
  generalize placesL2 a b = L at *
  generalize joinErr a b = EE at *
  generalize joinV a b = VV at *
  clear hn hn2
  by_cases h6 : 6 < L.length
  · obtain ⟨rfl, rfl⟩ := F1.out h6
    have d6 : decide (6 < (L.length : Int)) = true := by simp; omega
    clear F1 F2 F3
    go_enter Try.func29, Try.ntmps29
    go_wp2_with fail
    refine C1.out.mono ?_
    rintro e w1 ⟨rfl, hE1⟩
    go_wp2_with fail
    refine (C2.out _ hE1).mono ?_
    rintro e w4 ⟨aL, cL, rfl, hIL, hX4⟩
    have hE4 := hE1.trans' hX4
    have HIL := Lib.hid hIL
    clear hIL hX4
    go_wp2_with fail
    go_ret2
    exact retAt_nil hE4
  have d6 : decide (6 < (L.length : Int)) = false := by simp; omega
  go_enter Try.func29, Try.ntmps29
  go_wp2_with fail
  refine C1.out.mono ?_
  rintro e w1 ⟨rfl, hE1⟩
  go_wp2_with fail
  refine (C2.out _ hE1).mono ?_
  rintro e w4 ⟨aL, cL, rfl, hIL, hX4⟩
  have hE4 := hE1.trans' hX4
  have HIL := Lib.hid hIL
  clear hIL hX4
  go_wp2_with fail
  go_loopw [8, 9] (fun v i wr => ∃ k : Nat, k ≤ L.length ∧ i = .int .i64 k ∧ Ext w4 wr ∧ Hid (wr.ownsRow w4.heap.size 50 2 v k (atomV (JL.take k)))) (fun _ i _ => L.length - (intOf i).toNat)
  case atStart => exact ⟨0, Nat.zero_le _, rfl, Below.refl _ _, World.ownsRow_nil _ _ _ _⟩
  case round =>
    obtain ⟨k, hk, rfl, hX, H⟩ := hrel
    have hE5 := hE4.trans' hX
    by_cases hlt : k < L.length
    · obtain ⟨bl, ol, rfl, hbl, hcl⟩ := HIL.out.ext hX k hlt
      rw [← gi_at] at hcl
      have t5 := HLb.out k hlt
      have Ht := Lib.hid (Hjt.out k hlt)
      have D1 := Lib.hid (fun W (h : Ext wr W) => C3.out (gi L k) W (hE5.trans' h))
      have D2 := Lib.hid (fun W (h : Ext wr W) => C4.out (gi L k) W (hE5.trans' h))
      have t1 := Hma.out (gi L k)
      have t2 := Hmb.out (gi L k)
      generalize gi L k = lk at *
      generalize massAt a lk = ma at *
      generalize massAt b lk = mb at *
      have hk12 : k ≤ 12 := by omega
      have k1 : IntKind.i64.wrap (ma + mb) = ma + mb := IntWalk.i64_in _ (by omega)
      go_wp2_with fail
      refine wp_region_ext_tail1 19 (by kernel_rfl) (by kernel_rfl) (by rfl) (by rfl) (fun _ _ _ h => h) ?_
      simp only [List.take_succ_cons, List.take_zero, List.drop_succ_cons, List.drop_zero]
      go_simp
      repeat (go_big_quiet_step (fail))
      go_big_quiet_step ((go_at_call 77; exact quiet_same (D1.out _ (GW.ext _))))
      repeat (go_big_quiet_step (fail))
      go_big_quiet_step ((go_at_call 77; exact quiet_same (D2.out _ (GW.ext _))))
      repeat (go_big_quiet_step (fail))
      refine wpQuiet_nil ?_
      intro w5 hX5
      have H5 := Lib.hid (row_ext H.out hX5)
      have hX5 := hX.trans' hX5
      have hsz := hX5.size
      have Hn := Lib.hid (reads_atoms (atoms_new1 w5 ⟨lk, ma + mb⟩ 50))
      clear k1
      go_wp2_with (at_builtin; refine wpList_append_any _ rfl (.tmp 28) (.tmp 47) 22 rfl w4.heap.size 50 i0 _ 2 16 Try.underlying22 Hi.out.1 Hi.out.2.1 Hi.out.2.2.1 Hi.out.2.2.2 rfl (by omega) _ k _ rfl (H5.out.alloc _) _ (some ⟨w5.heap.size, 0, none⟩) 1 1 (atomV [⟨lk, ma + mb⟩]) rfl Hn.out (atomV_one_cell _) (by unfold maxLen; omega) (by omega) (by simp; omega) ?_; intro v' w6 hown hgrow hat; have hX6 := ext_append hX5 H5.out (Nat.le_refl _) hgrow; rw [← atomV_append, ← Ht.out] at hown; have H6 := Lib.hid hown; clear hat hgrow hown)
      go_roundw
      case rel => exact ⟨k + 1, by omega, by go_num, hX6, H6⟩
      case measure => simp [intOf]; omega
    · obtain rfl : k = L.length := by omega
      have H2 := H.out
      rw [← Hjl.out, List.take_length] at H2
      obtain ⟨aJ, cJ, e, hA⟩ := atoms_of_row H2
      subst e
      have hJ6 : JL.length ≤ 100 := by have := Hjl.out; omega
      have H3 := Lib.hid (row_base H2 hE4.size)
      have HA := Lib.hid hA
      clear H H2 hA
      by_cases hv : valLoad JL = 0
      · obtain ⟨rfl, rfl⟩ := F3.out h6 hv
        have C5 := Lib.hid (f80_yes aJ VV.length cJ VV _ HA.out rfl (by omega) hv)
        clear F1 F2 F3 hv
        have Hg := Lib.hid Hjl.out
        go_wp2_with fail
        refine C5.out.mono ?_
        rintro e w7 ⟨rfl, hX7⟩
        have hf := Lib.hid (show RetAt VV 0 w (.returned (.tuple #[.slice aJ VV.length cJ, .int .i64 0])) w7 from ⟨aJ, cJ, rfl, row_ext H3.out hX7, hE5.trans' hX7⟩)
        go_wp2_with fail
        go_ret2
        exact hf.out
      · obtain ⟨rfl, rfl⟩ := F2.out h6 hv
        have C5 := Lib.hid (f80_no aJ JL.length cJ JL _ HA.out rfl (by omega) hv)
        clear F1 F2 F3 hv
        go_wp2_with fail
        refine C5.out.mono ?_
        rintro e w7 ⟨rfl, hX7⟩
        go_wp2_with fail
        go_ret2
        exact retAt_nil (hE5.trans' hX7)

end Go.Proofs.Ytfhgnmijigdlmaa
