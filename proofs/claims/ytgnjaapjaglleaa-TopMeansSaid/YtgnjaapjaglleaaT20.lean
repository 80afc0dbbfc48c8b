/- Contracts of layer 7: Lower, Upper, Medians of the program. -/
import Derived.Deep.RegionHeld3
import Derived.Test.YtgnjaapjaglleaaT18
import Derived.Test.YtgnjaapjaglleaaT16
namespace Go.Proofs.Ytgnjaapjaglleaa
open Go.RowKit
attribute [local go_sem] GW.cell

set_option maxHeartbeats 2000000 in
theorem f91_c (a : Option Addr) (n c : Nat) (L : List Int) (w : World) (hl : Ints w a L) (hn : L.length = n) (m : Nat) (_hm : L.length = m) (h0 : 0 < L.length) (_h1 : n ≤ 1000000) :
    Calls Try.prog 91 #[.slice a n c] w fun e w' => e = .returned (.int .i64 (gi L 0)) ∧ w = w' := by
  subst hn
  obtain ⟨b, off, rfl, hb, hc⟩ := hl 0 h0
  rw [← gi_at] at hc
  simp only [Nat.add_zero] at hc
  generalize gi L 0 = x at *
  go_enter Try.func91, Try.ntmps91
  go_wp2_with fail
  go_ret
  exact ⟨rfl, rfl⟩
set_option maxHeartbeats 2000000 in
theorem f92_c (a : Option Addr) (n c : Nat) (L : List Int) (w : World) (hl : Ints w a L) (hn : L.length = n) (m : Nat) (hm : L.length = m) (h0 : 0 < L.length) (h1 : n ≤ 1000000) :
    Calls Try.prog 92 #[.slice a n c] w fun e w' => e = .returned (.int .i64 (gi L (m - 1))) ∧ w = w' := by
  subst hn
  subst hm
  obtain ⟨q, hq⟩ : ∃ q : Nat, L.length - 1 = q := ⟨_, rfl⟩
  rw [hq]
  obtain ⟨b, off, rfl, hb, hc⟩ := hl q (by omega)
  rw [← gi_at] at hc
  generalize gi L q = x at *
  have hi : ((L.length : Int) - 1) = ((q : Nat) : Int) := by omega
  have hql : q < L.length := by omega
  clear hq
  go_enter Try.func92, Try.ntmps92
  go_wp2_with fail
  go_ret
  exact ⟨rfl, rfl⟩
set_option maxHeartbeats 2000000 in
theorem f93_c (a : Option Addr) (n c : Nat) (L : List Int) (w : World) (hl : Ints w a L) (hn : L.length = n) (m : Nat) (hm : L.length = m) (h0 : 0 < L.length) (h1 : n ≤ 1000000) :
    Calls Try.prog 93 #[.slice a n c] w fun e w' => e = .returned (.int .i64 (gi L ((m - 1) / 2))) ∧ w = w' := by
  subst hn
  subst hm
  obtain ⟨q, hq⟩ : ∃ q : Nat, (L.length - 1) / 2 = q := ⟨_, rfl⟩
  rw [hq]
  obtain ⟨b, off, rfl, hb, hc⟩ := hl q (by omega)
  rw [← gi_at] at hc
  generalize gi L q = x at *
  have hi : ((L.length : Int) - 1) / 2 = ((q : Nat) : Int) := by omega
  have ht : Int.tdiv ((L.length : Int) - 1) 2 = ((q : Nat) : Int) := by rw [Int.tdiv_eq_ediv_of_nonneg (by omega)]; exact hi
  have hql : q < L.length := by omega
  clear hq
  go_enter Try.func93, Try.ntmps93
  go_wp2_with fail
  go_ret
  exact ⟨rfl, rfl⟩

set_option maxRecDepth 20000 in
set_option maxHeartbeats 8000000 in
theorem f90_91 (a : Option Addr) (n c : Nat) (l : List (List Atom)) (w : World) (hl : Loads w a l) (hn : l.length = n) (hlen : n ≤ 140737488355328) (hin : ∀ j, (hj : j < l.length) → l[j].length ≤ 140737488355328) :
    Calls Try.prog 90 #[.slice a n c, .agg #[.func (.func 91) #[] #[]]] w (RetAtoms (rankV l 0) (loadsErr l) w) := by
  subst hn
  obtain ⟨i0, hi0⟩ := info_parts info3
  have Hi := Lib.hid hi0
  clear hi0
  have hE0 := ext_alloc w (.cells #[.func (.func 91) #[] #[]] 92)
  have HB := Lib.hid (BlkC.new w #[.func (.func 91) #[] #[]] 92)
  have hz := HB.out.lt
  go_enter Try.func90, Try.ntmps90
  go_wp2_with fail
  generalize (w.alloc (.cells #[.func (.func 91) #[] #[]] 92)) = w0 at *
  refine (f47_c a l.length c l _ (hl.ext hE0) rfl hlen hin).mono ?_
  rintro e w1 ⟨rfl, hX1⟩
  have hE1 := hE0.trans' hX1
  by_cases h0 : loadsErr l = 0
  case neg =>
    have hb : (loadsErr l != 0) = true := by simp [h0]
    have H0 := Lib.hid h0
    clear h0
    go_wp2_with fail
    go_ret2
    exact rank_bad H0.out hE1
  have H0 := Lib.hid h0
  have HRK : Hid (rankV l 0 = rankL l 0) := Lib.hid (by unfold rankV; rw [if_pos h0])
  rw [h0]
  have hok := loadsErr_ok h0
  clear h0
  have hN := unitsN_bd hok
  have h5 := hok.five
  have h1 := hok.pos
  have Hpl := Lib.hid (fun W (h : Loads W a l) (k : Nat) (hk : (k : Int) < totalL (l[0]?.getD [])) => f66_c a l.length c l k W h rfl hok hk)
  have h10 : 0 < l.length := h1
  have F0 := Lib.hid (hok.fine h10)
  have e0 : l[0]?.getD [] = l[0] := by rw [List.getElem?_eq_getElem (by omega), Option.getD_some]
  rw [e0] at hN
  rw [e0] at Hpl
  have hN1 : (unitsN l : Int) ≤ totalL l[0] ∧ totalL l[0] ≤ (unitsN l : Int) ∧ unitsN l ≤ 180 := by omega
  have HU := Lib.hid (fun k (hk : k < unitsN l) => rankU_take (ll := l) (r := 0) hk)
  have HUl := Lib.hid (rankU_length l 0)
  have Hcol : Hid (rankL l 0 = collectL (rankU l 0)) := Lib.hid rfl
  clear hN e0 hok
  generalize rankV l 0 = LV at *
  generalize rankL l 0 = LL at *
  generalize rankU l 0 = U at *
  generalize unitsN l = N at *
  generalize loadsErr l = EE at *
  have hTb : totalL l[0] ≤ 180 := by omega
  obtain ⟨b0, o0, a0, c0, e0', hb0, hc0, hi0'⟩ := hl.ext hE1 0 (by omega)
  subst e0'
  simp only [Nat.add_zero] at hc0
  go_wp2_with fail
  refine (f65_c a0 _ c0 l[0] _ hi0' rfl F0.out).mono ?_
  rintro e w2 ⟨rfl, hX2⟩
  have hE2 := hE1.trans' hX2
  have hX2 := hX1.trans' hX2
  have hz2 : w.heap.size < w2.heap.size := Nat.lt_of_lt_of_le hz hX2.size
  generalize totalL l[0] = T at *
  clear hc0 hi0'
  go_wp2_with fail
  go_loopw [7, 18] (fun v i wr => ∃ k : Nat, k ≤ N ∧ i = .int .i64 k ∧ Ext w2 wr ∧ Hid (wr.ownsRow w2.heap.size 3 1 v k ((U.take k).map (.int .i64)))) (fun _ i _ => N - (intOf i).toNat)
  case atStart => exact ⟨0, Nat.zero_le _, rfl, Below.refl _ _, World.ownsRow_nil _ _ _ _⟩
  case round =>
    obtain ⟨k, hk, rfl, hX3, H⟩ := hrel
    have hE3 := hE2.trans' hX3
    have hX4 := hX2.trans' hX3
    by_cases hlt : k < N
    · have hltT : (k : Int) < T := by omega
      have Hd := Lib.hid (HU.out k hlt)
      have hPl : (placesL l k).length ≤ 1000000 := by rw [placesL_length]; omega
      have hPs : 0 < (sortI (placesL l k)).length := by rw [sortI_length, placesL_length]; exact h10
      have hPs2 : (sortI (placesL l k)).length ≤ 1000000 := by rw [sortI_length]; exact hPl
      have HPe : Hid ((sortI (placesL l k)).length = l.length) := Lib.hid (by rw [sortI_length, placesL_length])
      have hszr := hX3.size
      have hzr : w.heap.size < wr.heap.size := by omega
      have hk0 := (HB.out.ext hX4).cellv 0 (v := .func (.func 91) #[] #[]) rfl
      obtain ⟨wo, rfl⟩ : ∃ wo : World, wo = wr := ⟨_, rfl⟩
      go_wp2_with fail
      go_region_held3 (fun w' => w'.cell? ⟨w.heap.size, 0, none⟩ = some (.func (.func 91) #[] #[])) (first | assumption | go_keep)
        (first
          | (go_at_call 66
             refine (Hpl.out _ ((hl.ext hE3).ext (ext_drew _)) k hltT).mono ?_
             rintro e w3 ⟨a3, c3, rfl, hI3, hY3⟩
             have hY3 : Ext wo w3 := (ext_drew _).trans' hY3
             have hk3 := (HB.out.ext (hX4.trans' hY3)).cellv 0 (v := .func (.func 91) #[] #[]) rfl)
          | (go_at_call 85
             refine (f85_c a3 (placesL l k).length c3 w3).mono ?_
             rintro e w4 ⟨rfl, hw4⟩
             have hZ4 : Ext w3 w4 := by rw [← hw4]; exact ext_alloc _ _
             have b4 : Boxed w4 w3.heap.size 30 (.slice a3 (placesL l k).length c3) := by rw [← hw4]; exact Boxed.new _ _ _
             have hY4 := hY3.trans' hZ4
             have hI4 := hI3.ext hZ4
             clear hw4
             have hk4 := (HB.out.ext (hX4.trans' hY4)).cellv 0 (v := .func (.func 91) #[] #[]) rfl)
          | (go_at_call 84
             refine (f84_c a3 c3 (placesL l k) hPl w3.heap.size w4 b4 hI4).mono ?_
             rintro e w5 ⟨a5, c5, rfl, hI5, hZ5⟩
             have hY5 := hY4.trans' hZ5
             have hs5 := hY5.size
             have hk5 := (HB.out.ext (hX4.trans' hY5)).cellv 0 (v := .func (.func 91) #[] #[]) rfl)
          | (go_at_call 91
             refine (f91_c a5 (sortI (placesL l k)).length c5 (sortI (placesL l k)) w5 hI5 rfl l.length HPe.out hPs hPs2).mono ?_
             rintro e w6 ⟨rfl, rfl⟩)
          | (refine step_append_any _ (by rfl) (.tmp 21) (.tmp 30) 30 (by rfl) w2.heap.size 3 i0 (.int .i64 0) 1 8 Try.underlying30 Hi.out.1 Hi.out.2.1 Hi.out.2.2.1 Hi.out.2.2.2 (by rfl) (by omega) u7 k _ (by rfl) ((row_ext H.out hY5).alloc _) _ (some ⟨w5.heap.size, 0, none⟩) 1 1 [.int .i64 (gi (sortI (placesL l k)) 0)] (by rfl) (reads_ints (ints_new1 w5 _ 3 w5.heap.size rfl)) (by simp [Value.oneCell']) (by unfold maxLen; omega) (by omega) (by simp; omega) ?_
             intro v' w9 hown hgrow hat
             have hY9 := ext_append (hX3.trans' hY5) (row_ext H.out hY5) (Nat.le_refl _) hgrow
             have H9 : Hid (w9.ownsRow w2.heap.size 3 1 v' (k + 1) ((U.take (k + 1)).map (.int .i64))) := (by rw [Hd.out, List.map_append]; exact hown)
             have hk9 := (HB.out.ext (hX2.trans' hY9)).cellv 0 (v := .func (.func 91) #[] #[]) rfl
             clear hat hgrow hown))
      go_wp2_with fail
      go_roundw
      case rel => exact ⟨k + 1, by omega, by go_num, hY9, H9⟩
      case measure => simp [intOf]; omega
    · obtain rfl : k = N := by omega
      have hge : ¬ (k : Int) < T := by omega
      have H2 := H.out
      rw [List.take_of_length_le (by rw [HUl.out]; exact Nat.le_refl _)] at H2
      obtain ⟨ad, cp, rfl, hI⟩ := ints_of_row H2
      have hUl : U.length ≤ 40000 := by have := HUl.out; omega
      clear H H2
      go_wp2_with fail
      refine (f67_c ad U.length cp U _ hI rfl hUl).mono ?_
      rintro e w9 ⟨v9, rfl, hrow, hE9⟩
      obtain ⟨av, cv, rfl⟩ := slice_form hrow
      have Hrow := Lib.hid hrow
      clear hrow
      go_wp2_with fail
      go_ret2
      exact ⟨_, ret_vi rfl H0.out.symm, by rw [HRK.out, Hcol.out]; exact row_base Hrow.out hE3.size, hE3.trans' hE9⟩

set_option maxRecDepth 20000 in
set_option maxHeartbeats 8000000 in
theorem f90_92 (a : Option Addr) (n c : Nat) (l : List (List Atom)) (w : World) (hl : Loads w a l) (hn : l.length = n) (hlen : n ≤ 140737488355328) (hin : ∀ j, (hj : j < l.length) → l[j].length ≤ 140737488355328) :
    Calls Try.prog 90 #[.slice a n c, .agg #[.func (.func 92) #[] #[]]] w (RetAtoms (rankV l (l.length - 1)) (loadsErr l) w) := by
  subst hn
  obtain ⟨i0, hi0⟩ := info_parts info3
  have Hi := Lib.hid hi0
  clear hi0
  have hE0 := ext_alloc w (.cells #[.func (.func 92) #[] #[]] 92)
  have HB := Lib.hid (BlkC.new w #[.func (.func 92) #[] #[]] 92)
  have hz := HB.out.lt
  go_enter Try.func90, Try.ntmps90
  go_wp2_with fail
  generalize (w.alloc (.cells #[.func (.func 92) #[] #[]] 92)) = w0 at *
  refine (f47_c a l.length c l _ (hl.ext hE0) rfl hlen hin).mono ?_
  rintro e w1 ⟨rfl, hX1⟩
  have hE1 := hE0.trans' hX1
  by_cases h0 : loadsErr l = 0
  case neg =>
    have hb : (loadsErr l != 0) = true := by simp [h0]
    have H0 := Lib.hid h0
    clear h0
    go_wp2_with fail
    go_ret2
    exact rank_bad H0.out hE1
  have H0 := Lib.hid h0
  have HRK : Hid (rankV l (l.length - 1) = rankL l (l.length - 1)) := Lib.hid (by unfold rankV; rw [if_pos h0])
  rw [h0]
  have hok := loadsErr_ok h0
  clear h0
  have hN := unitsN_bd hok
  have h5 := hok.five
  have h1 := hok.pos
  have Hpl := Lib.hid (fun W (h : Loads W a l) (k : Nat) (hk : (k : Int) < totalL (l[0]?.getD [])) => f66_c a l.length c l k W h rfl hok hk)
  have h10 : 0 < l.length := h1
  have F0 := Lib.hid (hok.fine h10)
  have e0 : l[0]?.getD [] = l[0] := by rw [List.getElem?_eq_getElem (by omega), Option.getD_some]
  rw [e0] at hN
  rw [e0] at Hpl
  have hN1 : (unitsN l : Int) ≤ totalL l[0] ∧ totalL l[0] ≤ (unitsN l : Int) ∧ unitsN l ≤ 180 := by omega
  have HU := Lib.hid (fun k (hk : k < unitsN l) => rankU_take (ll := l) (r := (l.length - 1)) hk)
  have HUl := Lib.hid (rankU_length l (l.length - 1))
  have Hcol : Hid (rankL l (l.length - 1) = collectL (rankU l (l.length - 1))) := Lib.hid rfl
  clear hN e0 hok
  generalize rankV l (l.length - 1) = LV at *
  generalize rankL l (l.length - 1) = LL at *
  generalize rankU l (l.length - 1) = U at *
  generalize unitsN l = N at *
  generalize loadsErr l = EE at *
  have hTb : totalL l[0] ≤ 180 := by omega
  obtain ⟨b0, o0, a0, c0, e0', hb0, hc0, hi0'⟩ := hl.ext hE1 0 (by omega)
  subst e0'
  simp only [Nat.add_zero] at hc0
  go_wp2_with fail
  refine (f65_c a0 _ c0 l[0] _ hi0' rfl F0.out).mono ?_
  rintro e w2 ⟨rfl, hX2⟩
  have hE2 := hE1.trans' hX2
  have hX2 := hX1.trans' hX2
  have hz2 : w.heap.size < w2.heap.size := Nat.lt_of_lt_of_le hz hX2.size
  generalize totalL l[0] = T at *
  clear hc0 hi0'
  go_wp2_with fail
  go_loopw [7, 18] (fun v i wr => ∃ k : Nat, k ≤ N ∧ i = .int .i64 k ∧ Ext w2 wr ∧ Hid (wr.ownsRow w2.heap.size 3 1 v k ((U.take k).map (.int .i64)))) (fun _ i _ => N - (intOf i).toNat)
  case atStart => exact ⟨0, Nat.zero_le _, rfl, Below.refl _ _, World.ownsRow_nil _ _ _ _⟩
  case round =>
    obtain ⟨k, hk, rfl, hX3, H⟩ := hrel
    have hE3 := hE2.trans' hX3
    have hX4 := hX2.trans' hX3
    by_cases hlt : k < N
    · have hltT : (k : Int) < T := by omega
      have Hd := Lib.hid (HU.out k hlt)
      have hPl : (placesL l k).length ≤ 1000000 := by rw [placesL_length]; omega
      have hPs : 0 < (sortI (placesL l k)).length := by rw [sortI_length, placesL_length]; exact h10
      have hPs2 : (sortI (placesL l k)).length ≤ 1000000 := by rw [sortI_length]; exact hPl
      have HPe : Hid ((sortI (placesL l k)).length = l.length) := Lib.hid (by rw [sortI_length, placesL_length])
      have hszr := hX3.size
      have hzr : w.heap.size < wr.heap.size := by omega
      have hk0 := (HB.out.ext hX4).cellv 0 (v := .func (.func 92) #[] #[]) rfl
      obtain ⟨wo, rfl⟩ : ∃ wo : World, wo = wr := ⟨_, rfl⟩
      go_wp2_with fail
      go_region_held3 (fun w' => w'.cell? ⟨w.heap.size, 0, none⟩ = some (.func (.func 92) #[] #[])) (first | assumption | go_keep)
        (first
          | (go_at_call 66
             refine (Hpl.out _ ((hl.ext hE3).ext (ext_drew _)) k hltT).mono ?_
             rintro e w3 ⟨a3, c3, rfl, hI3, hY3⟩
             have hY3 : Ext wo w3 := (ext_drew _).trans' hY3
             have hk3 := (HB.out.ext (hX4.trans' hY3)).cellv 0 (v := .func (.func 92) #[] #[]) rfl)
          | (go_at_call 85
             refine (f85_c a3 (placesL l k).length c3 w3).mono ?_
             rintro e w4 ⟨rfl, hw4⟩
             have hZ4 : Ext w3 w4 := by rw [← hw4]; exact ext_alloc _ _
             have b4 : Boxed w4 w3.heap.size 30 (.slice a3 (placesL l k).length c3) := by rw [← hw4]; exact Boxed.new _ _ _
             have hY4 := hY3.trans' hZ4
             have hI4 := hI3.ext hZ4
             clear hw4
             have hk4 := (HB.out.ext (hX4.trans' hY4)).cellv 0 (v := .func (.func 92) #[] #[]) rfl)
          | (go_at_call 84
             refine (f84_c a3 c3 (placesL l k) hPl w3.heap.size w4 b4 hI4).mono ?_
             rintro e w5 ⟨a5, c5, rfl, hI5, hZ5⟩
             have hY5 := hY4.trans' hZ5
             have hs5 := hY5.size
             have hk5 := (HB.out.ext (hX4.trans' hY5)).cellv 0 (v := .func (.func 92) #[] #[]) rfl)
          | (go_at_call 92
             refine (f92_c a5 (sortI (placesL l k)).length c5 (sortI (placesL l k)) w5 hI5 rfl l.length HPe.out hPs hPs2).mono ?_
             rintro e w6 ⟨rfl, rfl⟩)
          | (refine step_append_any _ (by rfl) (.tmp 21) (.tmp 30) 30 (by rfl) w2.heap.size 3 i0 (.int .i64 0) 1 8 Try.underlying30 Hi.out.1 Hi.out.2.1 Hi.out.2.2.1 Hi.out.2.2.2 (by rfl) (by omega) u7 k _ (by rfl) ((row_ext H.out hY5).alloc _) _ (some ⟨w5.heap.size, 0, none⟩) 1 1 [.int .i64 (gi (sortI (placesL l k)) (l.length - 1))] (by rfl) (reads_ints (ints_new1 w5 _ 3 w5.heap.size rfl)) (by simp [Value.oneCell']) (by unfold maxLen; omega) (by omega) (by simp; omega) ?_
             intro v' w9 hown hgrow hat
             have hY9 := ext_append (hX3.trans' hY5) (row_ext H.out hY5) (Nat.le_refl _) hgrow
             have H9 : Hid (w9.ownsRow w2.heap.size 3 1 v' (k + 1) ((U.take (k + 1)).map (.int .i64))) := (by rw [Hd.out, List.map_append]; exact hown)
             have hk9 := (HB.out.ext (hX2.trans' hY9)).cellv 0 (v := .func (.func 92) #[] #[]) rfl
             clear hat hgrow hown))
      go_wp2_with fail
      go_roundw
      case rel => exact ⟨k + 1, by omega, by go_num, hY9, H9⟩
      case measure => simp [intOf]; omega
    · obtain rfl : k = N := by omega
      have hge : ¬ (k : Int) < T := by omega
      have H2 := H.out
      rw [List.take_of_length_le (by rw [HUl.out]; exact Nat.le_refl _)] at H2
      obtain ⟨ad, cp, rfl, hI⟩ := ints_of_row H2
      have hUl : U.length ≤ 40000 := by have := HUl.out; omega
      clear H H2
      go_wp2_with fail
      refine (f67_c ad U.length cp U _ hI rfl hUl).mono ?_
      rintro e w9 ⟨v9, rfl, hrow, hE9⟩
      obtain ⟨av, cv, rfl⟩ := slice_form hrow
      have Hrow := Lib.hid hrow
      clear hrow
      go_wp2_with fail
      go_ret2
      exact ⟨_, ret_vi rfl H0.out.symm, by rw [HRK.out, Hcol.out]; exact row_base Hrow.out hE3.size, hE3.trans' hE9⟩

set_option maxRecDepth 20000 in
set_option maxHeartbeats 8000000 in
theorem f90_93 (a : Option Addr) (n c : Nat) (l : List (List Atom)) (w : World) (hl : Loads w a l) (hn : l.length = n) (hlen : n ≤ 140737488355328) (hin : ∀ j, (hj : j < l.length) → l[j].length ≤ 140737488355328) :
    Calls Try.prog 90 #[.slice a n c, .agg #[.func (.func 93) #[] #[]]] w (RetAtoms (rankV l ((l.length - 1) / 2)) (loadsErr l) w) := by
  subst hn
  obtain ⟨i0, hi0⟩ := info_parts info3
  have Hi := Lib.hid hi0
  clear hi0
  have hE0 := ext_alloc w (.cells #[.func (.func 93) #[] #[]] 92)
  have HB := Lib.hid (BlkC.new w #[.func (.func 93) #[] #[]] 92)
  have hz := HB.out.lt
  go_enter Try.func90, Try.ntmps90
  go_wp2_with fail
  generalize (w.alloc (.cells #[.func (.func 93) #[] #[]] 92)) = w0 at *
  refine (f47_c a l.length c l _ (hl.ext hE0) rfl hlen hin).mono ?_
  rintro e w1 ⟨rfl, hX1⟩
  have hE1 := hE0.trans' hX1
  by_cases h0 : loadsErr l = 0
  case neg =>
    have hb : (loadsErr l != 0) = true := by simp [h0]
    have H0 := Lib.hid h0
    clear h0
    go_wp2_with fail
    go_ret2
    exact rank_bad H0.out hE1
  have H0 := Lib.hid h0
  have HRK : Hid (rankV l ((l.length - 1) / 2) = rankL l ((l.length - 1) / 2)) := Lib.hid (by unfold rankV; rw [if_pos h0])
  rw [h0]
  have hok := loadsErr_ok h0
  clear h0
  have hN := unitsN_bd hok
  have h5 := hok.five
  have h1 := hok.pos
  have Hpl := Lib.hid (fun W (h : Loads W a l) (k : Nat) (hk : (k : Int) < totalL (l[0]?.getD [])) => f66_c a l.length c l k W h rfl hok hk)
  have h10 : 0 < l.length := h1
  have F0 := Lib.hid (hok.fine h10)
  have e0 : l[0]?.getD [] = l[0] := by rw [List.getElem?_eq_getElem (by omega), Option.getD_some]
  rw [e0] at hN
  rw [e0] at Hpl
  have hN1 : (unitsN l : Int) ≤ totalL l[0] ∧ totalL l[0] ≤ (unitsN l : Int) ∧ unitsN l ≤ 180 := by omega
  have HU := Lib.hid (fun k (hk : k < unitsN l) => rankU_take (ll := l) (r := ((l.length - 1) / 2)) hk)
  have HUl := Lib.hid (rankU_length l ((l.length - 1) / 2))
  have Hcol : Hid (rankL l ((l.length - 1) / 2) = collectL (rankU l ((l.length - 1) / 2))) := Lib.hid rfl
  clear hN e0 hok
  generalize rankV l ((l.length - 1) / 2) = LV at *
  generalize rankL l ((l.length - 1) / 2) = LL at *
  generalize rankU l ((l.length - 1) / 2) = U at *
  generalize unitsN l = N at *
  generalize loadsErr l = EE at *
  have hTb : totalL l[0] ≤ 180 := by omega
  obtain ⟨b0, o0, a0, c0, e0', hb0, hc0, hi0'⟩ := hl.ext hE1 0 (by omega)
  subst e0'
  simp only [Nat.add_zero] at hc0
  go_wp2_with fail
  refine (f65_c a0 _ c0 l[0] _ hi0' rfl F0.out).mono ?_
  rintro e w2 ⟨rfl, hX2⟩
  have hE2 := hE1.trans' hX2
  have hX2 := hX1.trans' hX2
  have hz2 : w.heap.size < w2.heap.size := Nat.lt_of_lt_of_le hz hX2.size
  generalize totalL l[0] = T at *
  clear hc0 hi0'
  go_wp2_with fail
  go_loopw [7, 18] (fun v i wr => ∃ k : Nat, k ≤ N ∧ i = .int .i64 k ∧ Ext w2 wr ∧ Hid (wr.ownsRow w2.heap.size 3 1 v k ((U.take k).map (.int .i64)))) (fun _ i _ => N - (intOf i).toNat)
  case atStart => exact ⟨0, Nat.zero_le _, rfl, Below.refl _ _, World.ownsRow_nil _ _ _ _⟩
  case round =>
    obtain ⟨k, hk, rfl, hX3, H⟩ := hrel
    have hE3 := hE2.trans' hX3
    have hX4 := hX2.trans' hX3
    by_cases hlt : k < N
    · have hltT : (k : Int) < T := by omega
      have Hd := Lib.hid (HU.out k hlt)
      have hPl : (placesL l k).length ≤ 1000000 := by rw [placesL_length]; omega
      have hPs : 0 < (sortI (placesL l k)).length := by rw [sortI_length, placesL_length]; exact h10
      have hPs2 : (sortI (placesL l k)).length ≤ 1000000 := by rw [sortI_length]; exact hPl
      have HPe : Hid ((sortI (placesL l k)).length = l.length) := Lib.hid (by rw [sortI_length, placesL_length])
      have hszr := hX3.size
      have hzr : w.heap.size < wr.heap.size := by omega
      have hk0 := (HB.out.ext hX4).cellv 0 (v := .func (.func 93) #[] #[]) rfl
      obtain ⟨wo, rfl⟩ : ∃ wo : World, wo = wr := ⟨_, rfl⟩
      go_wp2_with fail
      go_region_held3 (fun w' => w'.cell? ⟨w.heap.size, 0, none⟩ = some (.func (.func 93) #[] #[])) (first | assumption | go_keep)
        (first
          | (go_at_call 66
             refine (Hpl.out _ ((hl.ext hE3).ext (ext_drew _)) k hltT).mono ?_
             rintro e w3 ⟨a3, c3, rfl, hI3, hY3⟩
             have hY3 : Ext wo w3 := (ext_drew _).trans' hY3
             have hk3 := (HB.out.ext (hX4.trans' hY3)).cellv 0 (v := .func (.func 93) #[] #[]) rfl)
          | (go_at_call 85
             refine (f85_c a3 (placesL l k).length c3 w3).mono ?_
             rintro e w4 ⟨rfl, hw4⟩
             have hZ4 : Ext w3 w4 := by rw [← hw4]; exact ext_alloc _ _
             have b4 : Boxed w4 w3.heap.size 30 (.slice a3 (placesL l k).length c3) := by rw [← hw4]; exact Boxed.new _ _ _
             have hY4 := hY3.trans' hZ4
             have hI4 := hI3.ext hZ4
             clear hw4
             have hk4 := (HB.out.ext (hX4.trans' hY4)).cellv 0 (v := .func (.func 93) #[] #[]) rfl)
          | (go_at_call 84
             refine (f84_c a3 c3 (placesL l k) hPl w3.heap.size w4 b4 hI4).mono ?_
             rintro e w5 ⟨a5, c5, rfl, hI5, hZ5⟩
             have hY5 := hY4.trans' hZ5
             have hs5 := hY5.size
             have hk5 := (HB.out.ext (hX4.trans' hY5)).cellv 0 (v := .func (.func 93) #[] #[]) rfl)
          | (go_at_call 93
             refine (f93_c a5 (sortI (placesL l k)).length c5 (sortI (placesL l k)) w5 hI5 rfl l.length HPe.out hPs hPs2).mono ?_
             rintro e w6 ⟨rfl, rfl⟩)
          | (refine step_append_any _ (by rfl) (.tmp 21) (.tmp 30) 30 (by rfl) w2.heap.size 3 i0 (.int .i64 0) 1 8 Try.underlying30 Hi.out.1 Hi.out.2.1 Hi.out.2.2.1 Hi.out.2.2.2 (by rfl) (by omega) u7 k _ (by rfl) ((row_ext H.out hY5).alloc _) _ (some ⟨w5.heap.size, 0, none⟩) 1 1 [.int .i64 (gi (sortI (placesL l k)) ((l.length - 1) / 2))] (by rfl) (reads_ints (ints_new1 w5 _ 3 w5.heap.size rfl)) (by simp [Value.oneCell']) (by unfold maxLen; omega) (by omega) (by simp; omega) ?_
             intro v' w9 hown hgrow hat
             have hY9 := ext_append (hX3.trans' hY5) (row_ext H.out hY5) (Nat.le_refl _) hgrow
             have H9 : Hid (w9.ownsRow w2.heap.size 3 1 v' (k + 1) ((U.take (k + 1)).map (.int .i64))) := (by rw [Hd.out, List.map_append]; exact hown)
             have hk9 := (HB.out.ext (hX2.trans' hY9)).cellv 0 (v := .func (.func 93) #[] #[]) rfl
             clear hat hgrow hown))
      go_wp2_with fail
      go_roundw
      case rel => exact ⟨k + 1, by omega, by go_num, hY9, H9⟩
      case measure => simp [intOf]; omega
    · obtain rfl : k = N := by omega
      have hge : ¬ (k : Int) < T := by omega
      have H2 := H.out
      rw [List.take_of_length_le (by rw [HUl.out]; exact Nat.le_refl _)] at H2
      obtain ⟨ad, cp, rfl, hI⟩ := ints_of_row H2
      have hUl : U.length ≤ 40000 := by have := HUl.out; omega
      clear H H2
      go_wp2_with fail
      refine (f67_c ad U.length cp U _ hI rfl hUl).mono ?_
      rintro e w9 ⟨v9, rfl, hrow, hE9⟩
      obtain ⟨av, cv, rfl⟩ := slice_form hrow
      have Hrow := Lib.hid hrow
      clear hrow
      go_wp2_with fail
      go_ret2
      exact ⟨_, ret_vi rfl H0.out.symm, by rw [HRK.out, Hcol.out]; exact row_base Hrow.out hE3.size, hE3.trans' hE9⟩

set_option maxHeartbeats 2000000 in
theorem f51_c (a : Option Addr) (n c : Nat) (l : List (List Atom)) (w : World) (hl : Loads w a l) (hn : l.length = n) (hlen : n ≤ 140737488355328) (hin : ∀ j, (hj : j < l.length) → l[j].length ≤ 140737488355328) :
    Calls Try.prog 51 #[.slice a n c] w (RetAtoms (rankV l 0) (loadsErr l) w) := by
  subst hn
  have C := f90_91 a l.length c l w hl rfl hlen hin
  generalize rankV l 0 = LV at *
  generalize loadsErr l = EE at *
  go_enter Try.func51, Try.ntmps51
  go_wp2_with fail
  refine C.mono ?_
  rintro e w1 ⟨v, rfl, hrow, hE⟩
  obtain ⟨av, cv, rfl⟩ := slice_form hrow
  go_wp2_with fail
  go_ret2
  exact ⟨_, rfl, hrow, hE⟩

set_option maxHeartbeats 2000000 in
theorem f52_c (a : Option Addr) (n c : Nat) (l : List (List Atom)) (w : World) (hl : Loads w a l) (hn : l.length = n) (hlen : n ≤ 140737488355328) (hin : ∀ j, (hj : j < l.length) → l[j].length ≤ 140737488355328) :
    Calls Try.prog 52 #[.slice a n c] w (RetAtoms (rankV l (l.length - 1)) (loadsErr l) w) := by
  subst hn
  have C := f90_92 a l.length c l w hl rfl hlen hin
  generalize rankV l (l.length - 1) = LV at *
  generalize loadsErr l = EE at *
  go_enter Try.func52, Try.ntmps52
  go_wp2_with fail
  refine C.mono ?_
  rintro e w1 ⟨v, rfl, hrow, hE⟩
  obtain ⟨av, cv, rfl⟩ := slice_form hrow
  go_wp2_with fail
  go_ret2
  exact ⟨_, rfl, hrow, hE⟩

set_option maxHeartbeats 2000000 in
theorem f53_c (a : Option Addr) (n c : Nat) (l : List (List Atom)) (w : World) (hl : Loads w a l) (hn : l.length = n) (hlen : n ≤ 140737488355328) (hin : ∀ j, (hj : j < l.length) → l[j].length ≤ 140737488355328) :
    Calls Try.prog 53 #[.slice a n c] w (RetAtoms (rankV l ((l.length - 1) / 2)) (loadsErr l) w) := by
  subst hn
  have C := f90_93 a l.length c l w hl rfl hlen hin
  generalize rankV l ((l.length - 1) / 2) = LV at *
  generalize loadsErr l = EE at *
  go_enter Try.func53, Try.ntmps53
  go_wp2_with fail
  refine C.mono ?_
  rintro e w1 ⟨v, rfl, hrow, hE⟩
  obtain ⟨av, cv, rfl⟩ := slice_form hrow
  go_wp2_with fail
  go_ret2
  exact ⟨_, rfl, hrow, hE⟩

end Go.Proofs.Ytgnjaapjaglleaa