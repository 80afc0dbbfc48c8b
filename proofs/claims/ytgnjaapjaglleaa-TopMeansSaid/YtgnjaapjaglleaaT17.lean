/- Contracts of layer 7: Between, of the program and of the reference. -/
import Derived.Test.YtgnjaapjaglleaaT13
import Derived.Test.YtgnjaapjaglleaaP13
namespace Go.Proofs.Ytgnjaapjaglleaa
open Go.RowKit
attribute [local go_sem] GW.cell

theorem bet_bad {l m : List Atom} {x y : Int} {w w' : World} {e : Int} (h : betErr l m x y = e) (he : e ≠ 0) (hE : Ext w w') : RetAtoms (betL l m x y) (betErr l m x y) w (.returned (.tuple #[.slice none 0 0, .int .i64 e])) w' := by
  unfold betL; rw [h, if_neg he]; exact retA_nil hE
theorem bet_pair {l m : List Atom} {x y : Int} (h : pairErr l m ≠ 0) : betErr l m x y = pairErr l m := by unfold betErr; rw [if_pos h]
theorem bet_share {l m : List Atom} {x y : Int} (h : pairErr l m = 0) (h2 : ¬ (1 ≤ y ∧ y ≤ 60 ∧ 0 ≤ x ∧ x ≤ y)) : betErr l m x y = 1 := by
  unfold betErr
  rw [if_neg (by simpa using h), if_neg (fun h3 => h2 (shareB_ok h3))]
theorem share_of {x y : Int} (h : 1 ≤ y ∧ y ≤ 60 ∧ 0 ≤ x ∧ x ≤ y) : shareB x y = true := by
  unfold shareB; rw [Bool.and_eq_true]; exact ⟨withinB_iff.2 (by omega), withinB_iff.2 (by omega)⟩
theorem bet_three {l m : List Atom} {x y : Int} (h : pairErr l m = 0) (h2 : shareB x y = true) (h3 : ¬ ((betU l m x y).all nearB = true ∧ (collectL (betU l m x y)).length ≤ 40)) : betErr l m x y = 3 := by
  unfold betErr
  rw [if_neg (by simpa using h), if_pos h2, if_neg h3]
theorem bet_zero {l m : List Atom} {x y : Int} (h : pairErr l m = 0) (h2 : shareB x y = true) (h3 : (betU l m x y).all nearB = true ∧ (collectL (betU l m x y)).length ≤ 40) : betErr l m x y = 0 := by
  unfold betErr
  rw [if_neg (by simpa using h), if_pos h2, if_pos h3]
theorem bet_take {l m : List Atom} {x y : Int} {k : Nat} (hk : k < (unitsL l).length) : (betU l m x y).take (k + 1) = (betU l m x y).take k ++ [(y - x) * gi (unitsL l) k + x * gi (unitsL m) k] := by
  rw [List.take_succ_eq_append_getElem (by rw [betU_length]; exact hk)]
  simp [betU, betAt]
theorem collect_len40 {U : List Int} (h : U.length ≤ 40000) : (collectL U).length ≤ 40000 := by
  have := (collect_mass U U.length (Nat.le_refl _)).1
  rw [List.take_length] at this
  omega
theorem nearB_no {U : List Int} {k : Nat} {z : Int} (hk : k < U.length) (e : gi U k = z) (h : nearB z = false) : U.all nearB = false := by
  rw [List.all_eq_false]; exact ⟨_, gi_mem hk, by rw [e, h]; simp⟩
theorem nearB_yes {U : List Int} (h : ∀ k, k < U.length → nearB (gi U k) = true) : U.all nearB = true := by
  rw [List.all_eq_true]
  intro z hz
  obtain ⟨k, hk, e⟩ := mem_gi hz
  rw [← e]; exact h k hk

set_option maxRecDepth 20000 in
set_option maxHeartbeats 8000000 in
theorem f40_c (a a2 : Option Addr) (n c n2 c2 : Nat) (l m : List Atom) (x y : Int) (w : World) (hl : Atoms w a l) (hn : l.length = n) (hlen : n ≤ 140737488355328) (hm : Atoms w a2 m) (hn2 : m.length = n2) (hlen2 : n2 ≤ 140737488355328) :
    Calls Try.prog 40 #[.slice a n c, .slice a2 n2 c2, .int .i64 x, .int .i64 y] w (RetAtoms (betL l m x y) (betErr l m x y) w) := by
  subst hn hn2
  obtain ⟨i0, hi0⟩ := info_parts info3
  have Hi := Lib.hid hi0
  clear hi0
  go_enter Try.func40, Try.ntmps40
  go_wp2_with fail
  refine (f60_c a a2 l.length c m.length c2 l m _ hl rfl hlen hm rfl hlen2).mono ?_
  rintro e w1 ⟨rfl, hE1⟩
  by_cases hp : pairErr l m = 0
  case neg =>
    have hb : (pairErr l m != 0) = true := by simp [hp]
    have HP := Lib.hid hp
    clear hp
    go_wp2_with fail
    go_ret2
    exact bet_bad (bet_pair HP.out) HP.out hE1
  have HP := Lib.hid hp
  rw [hp]
  obtain ⟨hF, hG, hT⟩ := pair_fine hp
  have hUV := units_eq hF hG hT
  have hU40 := units_40 hF
  have Hu := Lib.hid (units_in hF)
  have Hv := Lib.hid (units_in hG)
  have H1 := Lib.hid (fun W (h : Atoms W a l) => f61_c a l.length c l W h rfl hF)
  have H2 := Lib.hid (fun W (h : Atoms W a2 m) => f61_c a2 m.length c2 m W h rfl hG)
  have Hbl := Lib.hid (betU_length l m x y)
  have Htk := Lib.hid (fun k (hk : k < (unitsL l).length) => bet_take (l := l) (m := m) (x := x) (y := y) hk)
  have Hgi := Lib.hid (fun k (hk : k < (unitsL l).length) => gi_bet (l := l) (m := m) (num := x) (den := y) hk)
  have hBL : (betU l m x y).length ≤ 40000 := by rw [Hbl.out]; exact hU40
  clear hT hF hG hp
  by_cases hs : y < 1
  case pos =>
    go_wp2_with fail
    go_ret2
    exact bet_bad (bet_share HP.out (by omega)) (by omega) hE1
  by_cases hs : 60 < y
  case pos =>
    go_wp2_with fail
    go_ret2
    exact bet_bad (bet_share HP.out (by omega)) (by omega) hE1
  by_cases hs : x < 0
  case pos =>
    go_wp2_with fail
    go_ret2
    exact bet_bad (bet_share HP.out (by omega)) (by omega) hE1
  by_cases hs : y < x
  case pos =>
    go_wp2_with fail
    go_ret2
    exact bet_bad (bet_share HP.out (by omega)) (by omega) hE1
  have hs : 1 ≤ y ∧ y ≤ 60 ∧ 0 ≤ x ∧ x ≤ y := by omega
  have HS := Lib.hid (share_of hs)
  have e6 : (0 : Int) ≤ y - x ∧ y - x ≤ 60 := by omega
  have HY := Lib.hid (fun h h2 => bet_yes (l := l) (m := m) HP.out HS.out h h2)
  go_wp2_with fail
  refine (H2.out _ (hm.ext hE1)).mono ?_
  rintro e w2 ⟨b2, d2, rfl, hI2, hX2⟩
  have hE2 := hE1.trans' hX2
  go_wp2_with fail
  refine (H1.out _ (hl.ext hE2)).mono ?_
  rintro e w3 ⟨b1, d1, rfl, hI1, hX3⟩
  have hI2 := hI2.ext hX3
  have hE3 := hE2.trans' hX3
  clear H1 H2
  have Hw := Lib.hid (IntWalk.i64_in (y - x) (by omega))
  have hw := Hw.out
  have Hret := Lib.hid (fun w' (hE : Ext w w') (h : valAtoms (collectL (betU l m x y)) ≠ 0) => bet_bad (l := l) (m := m) (x := x) (y := y) (w := w) (w' := w') (bet_three HP.out HS.out (fun q => h (HY.out q.1 q.2))) (by omega) hE)
  have Hyes := Lib.hid (fun (h : valAtoms (collectL (betU l m x y)) = 0) => bet_zero HP.out HS.out (Classical.byContradiction fun q => bet_no q h))
  have HL : Hid (betErr l m x y = 0 → betL l m x y = collectL (betU l m x y)) := Lib.hid (fun h => by unfold betL; rw [if_pos h])
  generalize betErr l m x y = E at *
  generalize betL l m x y = L at *
  generalize betU l m x y = B at *
  generalize unitsL l = U at *
  generalize unitsL m = V at *
  go_wp2_with fail
  go_loopw [12, 41] (fun v i wr => ∃ q : Nat, q ≤ U.length ∧ i = .int .i64 q ∧ Ext w3 wr ∧ Hid (wr.ownsRow w3.heap.size 3 1 v q ((B.take q).map (.int .i64)))) (fun _ i _ => U.length - (intOf i).toNat)
  case atStart => exact ⟨0, Nat.zero_le _, rfl, Below.refl _ _, World.ownsRow_nil _ _ _ _⟩
  case round =>
    obtain ⟨q, hq, rfl, hX4, H⟩ := hrel
    have hE4 := hE3.trans' hX4
    by_cases hlt : q < U.length
    · obtain ⟨b, off, rfl, hb, hc⟩ := hI1.ext hX4 q hlt
      obtain ⟨b', off', rfl, hb', hc'⟩ := hI2.ext hX4 q (by omega)
      have h1 := Hu.out q hlt
      have h2 := Hv.out q (by omega)
      have Hd := Lib.hid (Htk.out q hlt)
      rw [← gi_at] at hc hc' h1 h2
      have hqV : q < V.length := by omega
      generalize gi U q = s at *
      generalize gi V q = t at *
      have m1 := mulbd (a := y - x) (b := s) (A := 60) (B := 60000) (by omega) (by omega)
      have m2 := mulbd (a := x) (b := t) (A := 60) (B := 60000) (by omega) (by omega)
      have k1 := IntWalk.i64_in ((y - x) * s) (by omega)
      have k2 := IntWalk.i64_in (x * t) (by omega)
      have k3 := IntWalk.i64_in ((y - x) * s + x * t) (by omega)
      have Hn := Lib.hid (reads_ints (ints_new1 wr ((y - x) * s + x * t) 3 wr.heap.size rfl))
      have hszx := hX4.size
      go_wp2_with (at_builtin; refine wpList_append_any _ rfl (.tmp 46) (.tmp 59) 30 rfl w3.heap.size 3 i0 (.int .i64 0) 1 8 Try.underlying30 Hi.out.1 Hi.out.2.1 Hi.out.2.2.1 Hi.out.2.2.2 rfl (by omega) _ q _ rfl (Lib.hid (World.ownsRow.alloc H.out _)).out _ (some ⟨wr.heap.size, 0, none⟩) 1 1 [.int .i64 ((y - x) * s + x * t)] rfl Hn.out (by simp [Value.oneCell']) (by unfold maxLen; omega) (by omega) (by simp; omega) ?_; intro v' w9 hown hgrow hat; have hX9 := ext_append hX4 H.out (Nat.le_refl _) hgrow; have H9 : Hid (w9.ownsRow w3.heap.size 3 1 v' (q + 1) ((B.take (q + 1)).map (.int .i64))) := (by rw [Hd.out, List.map_append]; exact hown); clear hat hgrow hown)
      go_roundw
      case rel => exact ⟨q + 1, by omega, by go_num, hX9, H9⟩
      case measure => simp [intOf]; omega
    · obtain rfl : q = U.length := by omega
      have H2 := H.out
      rw [List.take_of_length_le (by rw [Hbl.out]; exact Nat.le_refl _)] at H2
      obtain ⟨ad, cp, rfl, hI⟩ := ints_of_row H2
      have hB2 : B.length ≤ 40000 := hBL
      clear H H2
      have Hfin := Lib.hid (fun W (h : Ints W ad B) => f67_c ad B.length cp B W h rfl hB2)
      go_wp2_with fail
      refine (Hfin.out _ hI).mono ?_
      rintro e w5 ⟨v5, rfl, hrow, hX5⟩
      obtain ⟨a5, c5, rfl, hA5⟩ := atoms_of_row hrow
      have hE5 := hE4.trans' hX5
      have hC := collect_len40 hB2
      have Hrow := Lib.hid (row_base hrow hE4.size)
      clear hrow
      by_cases hv : valAtoms (collectL B) = 0
      · have HZ := Lib.hid (Hyes.out hv)
        have HLL := Lib.hid (HL.out HZ.out)
        generalize collectL B = C at *
        go_wp2_with fail
        refine (f81_yes a5 C.length c5 C w5 hA5 rfl (by omega) hv).mono ?_
        rintro e w6 ⟨rfl, hX6⟩
        go_wp2_with fail
        go_ret2
        exact ⟨_, ret_vi rfl HZ.out.symm, by rw [HLL.out]; exact row_ext Hrow.out hX6, hE5.trans' hX6⟩
      · have HR := Lib.hid (fun w' (hE : Ext w w') => Hret.out w' hE hv)
        generalize collectL B = C at *
        go_wp2_with fail
        refine (f81_no a5 C.length c5 C w5 hA5 rfl (by omega) hv).mono ?_
        rintro e w6 ⟨rfl, hX6⟩
        go_wp2_with fail
        go_ret2
        exact HR.out _ (hE5.trans' hX6)

set_option maxRecDepth 20000 in
set_option maxHeartbeats 8000000 in
theorem f41_c (a a2 : Option Addr) (n c n2 c2 : Nat) (l m : List Atom) (x y : Int) (w : World) (hl : Atoms w a l) (hn : l.length = n) (hlen : n ≤ 140737488355328) (hm : Atoms w a2 m) (hn2 : m.length = n2) (hlen2 : n2 ≤ 140737488355328) :
    Calls Try.prog 41 #[.slice a n c, .slice a2 n2 c2, .int .i64 x, .int .i64 y] w (RetAtoms (betL l m x y) (betErr l m x y) w) := by
  subst hn hn2
  obtain ⟨i0, hi0⟩ := info_parts info3
  have Hi := Lib.hid hi0
  clear hi0
  go_enter Try.func41, Try.ntmps41
  go_wp2_with fail
  refine (f62_c a a2 l.length c m.length c2 l m _ hl rfl hlen hm rfl hlen2).mono ?_
  rintro e w1 ⟨rfl, hE1⟩
  by_cases hp : pairErr l m = 0
  case neg =>
    have hb : (pairErr l m != 0) = true := by simp [hp]
    have HP := Lib.hid hp
    clear hp
    go_wp2_with fail
    go_ret2
    exact bet_bad (bet_pair HP.out) HP.out hE1
  have HP := Lib.hid hp
  rw [hp]
  obtain ⟨hF, hG, hT⟩ := pair_fine hp
  have hUV := units_eq hF hG hT
  have hU40 := units_40 hF
  have Hu := Lib.hid (units_in hF)
  have Hv := Lib.hid (units_in hG)
  have H1 := Lib.hid (fun W (h : Atoms W a l) => f63_c a l.length c l W h rfl hF)
  have H2 := Lib.hid (fun W (h : Atoms W a2 m) => f63_c a2 m.length c2 m W h rfl hG)
  have Hbl := Lib.hid (betU_length l m x y)
  have Htk := Lib.hid (fun k (hk : k < (unitsL l).length) => bet_take (l := l) (m := m) (x := x) (y := y) hk)
  have Hgi := Lib.hid (fun k (hk : k < (unitsL l).length) => gi_bet (l := l) (m := m) (num := x) (den := y) hk)
  have hBL : (betU l m x y).length ≤ 40000 := by rw [Hbl.out]; exact hU40
  clear hT hF hG hp
  go_wp2_with fail
  refine (f73_c y 1 60 _).mono ?_
  rintro e w0 ⟨rfl, rfl⟩
  rcases Bool.eq_false_or_eq_true (withinB y 1 60) with hs1 | hs1
  case inr =>
    rw [hs1]
    go_wp2_with fail
    go_ret2
    exact bet_bad (bet_share HP.out (fun q => by have : withinB y 1 60 = true := withinB_iff.2 (by omega); rw [hs1] at this; cases this)) (by omega) hE1
  rw [hs1]
  go_wp2_with fail
  refine (f73_c x 0 y _).mono ?_
  rintro e w0 ⟨rfl, rfl⟩
  rcases Bool.eq_false_or_eq_true (withinB x 0 y) with hs2 | hs2
  case inr =>
    rw [hs2]
    go_wp2_with fail
    go_ret2
    exact bet_bad (bet_share HP.out (fun q => by have : withinB x 0 y = true := withinB_iff.2 (by omega); rw [hs2] at this; cases this)) (by omega) hE1
  rw [hs2]
  have HS : Hid (shareB x y = true) := Lib.hid (by unfold shareB; rw [hs1, hs2]; rfl)
  have hs := shareB_ok HS.out
  clear hs1 hs2
  have e6 : (0 : Int) ≤ y - x ∧ y - x ≤ 60 := by omega
  go_wp2_with fail
  refine (H1.out _ (hl.ext hE1)).mono ?_
  rintro e w2 ⟨b1, d1, rfl, hI1, hX2⟩
  have hE2 := hE1.trans' hX2
  go_wp2_with fail
  refine (H2.out _ (hm.ext hE2)).mono ?_
  rintro e w3 ⟨b2, d2, rfl, hI2, hX3⟩
  have hI1 := hI1.ext hX3
  have hE3 := hE2.trans' hX3
  clear H1 H2
  have hw := IntWalk.i64_in (y - x) (by omega)
  have Hret := Lib.hid (fun w' (hE : Ext w w') h => bet_bad (l := l) (m := m) (x := x) (y := y) (w := w) (w' := w') (bet_three HP.out HS.out h) (by omega) hE)
  have Hyes := Lib.hid (fun h => bet_zero (l := l) (m := m) (x := x) (y := y) HP.out HS.out h)
  have HL : Hid (betErr l m x y = 0 → betL l m x y = collectL (betU l m x y)) := Lib.hid (fun h => by unfold betL; rw [if_pos h])
  have Hat : Hid (∀ k, k < (unitsL l).length → gi (betU l m x y) k = (y - x) * gi (unitsL l) k + x * gi (unitsL m) k) := Lib.hid (fun k hk => Hgi.out k hk)
  clear Hgi
  generalize betErr l m x y = E at *
  generalize betL l m x y = L at *
  generalize betU l m x y = B at *
  generalize unitsL l = U at *
  generalize unitsL m = V at *
  go_wp2_with fail
  go_loopw [13, 14] (fun v i wr => ∃ q : Nat, q ≤ U.length ∧ i = .int .i64 q ∧ Ext w3 wr ∧ Hid (∀ k, k < q → nearB (gi B k) = true) ∧ Hid (wr.ownsRow w3.heap.size 3 1 v q ((B.take q).map (.int .i64)))) (fun _ i _ => U.length - (intOf i).toNat)
  case atStart => exact ⟨0, Nat.zero_le _, rfl, Below.refl _ _, Lib.hid (fun k hk => absurd hk (by omega)), World.ownsRow_nil _ _ _ _⟩
  case round =>
    obtain ⟨q, hq, rfl, hX4, HN, H⟩ := hrel
    have hE4 := hE3.trans' hX4
    by_cases hlt : q < U.length
    · obtain ⟨b, off, rfl, hb, hc⟩ := hI1.ext hX4 q hlt
      obtain ⟨b', off', rfl, hb', hc'⟩ := hI2.ext hX4 q (by omega)
      have h1 := Hu.out q hlt
      have h2 := Hv.out q (by omega)
      have Hd := Lib.hid (Htk.out q hlt)
      have Ha := Lib.hid (Hat.out q hlt)
      rw [← gi_at] at hc hc' h1 h2
      have hqV : q < V.length := by omega
      have hqB : q < B.length := by rw [Hbl.out]; exact hlt
      generalize gi U q = s at *
      generalize gi V q = t at *
      have m1 := mulbd (a := y - x) (b := s) (A := 60) (B := 60000) (by omega) (by omega)
      have m2 := mulbd (a := x) (b := t) (A := 60) (B := 60000) (by omega) (by omega)
      have k1 := IntWalk.i64_in ((y - x) * s) (by omega)
      have k2 := IntWalk.i64_in (x * t) (by omega)
      have k3 := IntWalk.i64_in ((y - x) * s + x * t) (by omega)
      have hszx := hX4.size
      obtain ⟨wq, rfl⟩ : ∃ wq : World, wq = wr := ⟨_, rfl⟩
      go_wp2_with fail
      refine wp_region_ext (by kernel_rfl) (by kernel_rfl) ?_
      repeat (go_big_quiet_step (fail))
      refine wpQuiet_nil ?_
      intro w5 hX5
      have hX6 := hX4.trans' hX5
      have H5 := Lib.hid (row_ext H.out hX5)
      have hE6 := hE4.trans' hX5
      have hszy := hX6.size
      clear H
      generalize (y - x) * s + x * t = z at *
      go_wp2_with fail
      refine (f73_c z (-60000) 60000 _).mono ?_
      rintro e w0 ⟨rfl, rfl⟩
      rcases Bool.eq_false_or_eq_true (withinB z (-60000) 60000) with hs3 | hs3
      · rw [hs3]
        have Hn := Lib.hid (reads_ints (ints_new1 w5 z 3 w5.heap.size rfl))
        have HN2 : Hid (∀ k, k < q + 1 → nearB (gi B k) = true) := Lib.hid (fun k hk => by
          by_cases hkq : k = q
          · subst hkq; rw [Ha.out]; exact hs3
          · exact HN.out k (by omega))
        clear hs3 HN
        go_wp2_with (at_builtin; refine wpList_append_any _ rfl (.tmp 60) (.tmp 62) 30 rfl w3.heap.size 3 i0 (.int .i64 0) 1 8 Try.underlying30 Hi.out.1 Hi.out.2.1 Hi.out.2.2.1 Hi.out.2.2.2 rfl (by omega) _ q _ rfl (Lib.hid (World.ownsRow.alloc H5.out _)).out _ (some ⟨w5.heap.size, 0, none⟩) 1 1 [.int .i64 z] rfl Hn.out (by simp [Value.oneCell']) (by unfold maxLen; omega) (by omega) (by simp; omega) ?_; intro v' w9 hown hgrow hat; have hX9 := ext_append hX6 H5.out (Nat.le_refl _) hgrow; have H9 : Hid (w9.ownsRow w3.heap.size 3 1 v' (q + 1) ((B.take (q + 1)).map (.int .i64))) := (by rw [Hd.out, List.map_append]; exact hown); clear hat hgrow hown)
        go_roundw
        case rel => exact ⟨q + 1, by omega, by go_num, hX9, HN2, H9⟩
        case measure => simp [intOf]; omega
      · rw [hs3]
        have HR := Lib.hid (Hret.out w5 hE6 (fun h => by rw [nearB_no hqB Ha.out hs3] at h; cases h.1))
        clear hs3
        go_wp2_with fail
        go_ret2
        exact HR.out
    · obtain rfl : q = U.length := by omega
      have H2 := H.out
      rw [List.take_of_length_le (by rw [Hbl.out]; exact Nat.le_refl _)] at H2
      obtain ⟨ad, cp, rfl, hI⟩ := ints_of_row H2
      have hB2 : B.length ≤ 40000 := hBL
      have hN : B.all nearB = true := nearB_yes (fun k hk => HN.out k (by rw [← Hbl.out]; exact hk))
      clear H H2
      have Hfin := Lib.hid (fun W (h : Ints W ad B) => f71_c ad B.length cp B W h rfl hB2)
      obtain ⟨wq, rfl⟩ : ∃ wq : World, wq = wr := ⟨_, rfl⟩
      go_wp2_with fail
      refine (Hfin.out _ hI).mono ?_
      rintro e w5 ⟨v5, rfl, hrow, hX5⟩
      obtain ⟨a5, c5, rfl⟩ := slice_form hrow
      have hE5 := hE4.trans' hX5
      have hC := collect_len40 hB2
      have Hrow := Lib.hid (row_base hrow hE4.size)
      clear hrow
      by_cases h40 : (collectL B).length ≤ 40
      · have HZ := Lib.hid (Hyes.out ⟨hN, h40⟩)
        have HLL := Lib.hid (HL.out HZ.out)
        generalize collectL B = C at *
        go_wp2_with fail
        go_ret2
        exact ⟨_, ret_vi rfl HZ.out.symm, by rw [HLL.out]; exact Hrow.out, hE5⟩
      · have HR := Lib.hid (Hret.out w5 hE5 (fun h => h40 h.2))
        generalize collectL B = C at *
        go_wp2_with fail
        go_ret2
        exact HR.out

end Go.Proofs.Ytgnjaapjaglleaa