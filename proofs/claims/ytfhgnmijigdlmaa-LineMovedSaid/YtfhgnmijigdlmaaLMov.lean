/- Loads that are moved, walked. -/
import Derived.Test.YtfhgnmijigdlmaaT20
namespace Go.Proofs.Ytfhgnmijigdlmaa
open Go.RowKit
attribute [local go_sem] GW.cell
theorem moved_mirror {a b : List Atom} {k : Int} (h : leastErr a b k = 0) : valLoad a = 0 ∧ valLoad b = 0 ∧ leastErr (mirrorV a) (mirrorV b) k = 0 ∧ leastV (mirrorV a) (mirrorV b) k = leastV a b k := by
  obtain ⟨h1, h2⟩ := leastErr_ok h
  obtain ⟨g1, g2, g3⟩ := linePair_ok h1
  have e1 : mirrorV a = mirrorL a := by unfold mirrorV; rw [if_pos g1]
  have e2 : mirrorV b = mirrorL b := by unfold mirrorV; rw [if_pos g2]
  rw [e1, e2]
  have hp : linePair (mirrorL a) (mirrorL b) = 0 := by unfold linePair bothErr; simp [mirror_valid g1, mirror_valid g2, total_mirror, g3]
  have e3 := leastErr_mk hp h2
  refine ⟨g1, g2, e3, ?_⟩
  unfold leastV
  rw [if_pos h, if_pos e3, apart_mirror (pair_len h1)]
theorem moved_shift {a b : List Atom} {k d : Int} (h : leastErr a b k = 0) (ha : shiftErr a d = 0) (hb : shiftErr b d = 0) :
    leastErr (shiftV a d) (shiftV b d) k = 0 ∧ leastV (shiftV a d) (shiftV b d) k = leastV a b k ∧ leastErr a (shiftV a d) 1 = 0 ∧ leastV a (shiftV a d) 1 = totV a * distI 0 d := by
  obtain ⟨h1, h2⟩ := leastErr_ok h
  obtain ⟨g1, g2, g3⟩ := linePair_ok h1
  have e1 : shiftV a d = shiftL a d := by unfold shiftV; rw [if_pos ha]
  have e2 : shiftV b d = shiftL b d := by unfold shiftV; rw [if_pos hb]
  rw [e1, e2]
  have hp : linePair (shiftL a d) (shiftL b d) = 0 := by unfold linePair bothErr; simp [shift_valid ha, shift_valid hb, total_shift, g3]
  have hq : linePair a (shiftL a d) = 0 := by unfold linePair bothErr; simp [g1, shift_valid ha, total_shift]
  have e3 := leastErr_mk hp h2
  have e4 := leastErr_mk (k := 1) hq rfl
  refine ⟨e3, ?_, e4, ?_⟩
  · unfold leastV
    rw [if_pos h, if_pos e3, apart_shift (pair_len h1)]
  · unfold leastV totV
    rw [if_pos e4, if_pos g1, apart_far (fine_load g1)]
theorem mirrorV_len' (l : List Atom) (h : l.length ≤ 100) : (mirrorV l).length ≤ 100 := by
  unfold mirrorV; split
  · simpa [mirrorL] using h
  · simp
theorem shiftV_len' (l : List Atom) (d : Int) (h : l.length ≤ 100) : (shiftV l d).length ≤ 100 := by
  unfold shiftV; split
  · simpa [shiftL] using h
  · simp
theorem totV_bd' (l : List Atom) : 0 ≤ totV l ∧ totV l ≤ 180 := by
  unfold totV; split
  · next h => exact load_total h
  · omega
theorem tot_pos {l : List Atom} {d : Int} (h : shiftErr l d = 0) (h0 : 0 < totV l) : -2000 ≤ d ∧ d ≤ 2000 := by
  have h1 := (shiftErr_ok h).1
  cases l with
  | nil => unfold totV at h0; rw [if_pos h1] at h0; simp [totalL] at h0
  | cons x t =>
    obtain ⟨_, h2⟩ := shiftErr_ok h
    have a1 := ((valLoad_in h1).2.1 x List.mem_cons_self).1
    unfold shiftOk at h2
    rw [List.all_eq_true] at h2
    have a2 := withinB_iff.1 (h2 x List.mem_cons_self)
    omega
set_option maxRecDepth 20000 in
set_option maxHeartbeats 16000000 in
theorem moved_walk (w : World) (a1 : Option Addr) (n1 c1 : Nat) (l1 : List Atom) (hl1 : Atoms w a1 l1) (hn1 : l1.length = n1) (a2 : Option Addr) (n2 c2 : Nat) (l2 : List Atom) (hl2 : Atoms w a2 l2) (hn2 : l2.length = n2) (d : Int) :
    Calls Try.prog 10 #[.agg #[.slice a1 n1 c1, .slice a2 n2 c2], .int .i64 d] w fun e w' => e = .returned (.bool true) ∧ Below w.heap.size w w' := by
  have hE0 := ext_alloc w (.cells #[.slice a1 n1 c1, .slice a2 n2 c2] 24)
  have HB := Lib.hid (BlkC.new w #[.slice a1 n1 c1, .slice a2 n2 c2] 24)
  have k0 := HB.out.cellv 0 (v := .slice a1 n1 c1) rfl
  have k1 := HB.out.cellv 1 (v := .slice a2 n2 c2) rfl
  cases hL : longB n1 n2
  case true =>
    clear hn1 hn2
    go_enter Try.func10, Try.ntmps10
    go_wp2_with fail
    generalize w.alloc (.cells #[.slice a1 n1 c1, .slice a2 n2 c2] 24) = w0 at *
    go_wp2_with fail
    refine (f18_c _ _ _ _ _ _ _).mono ?_
    rintro e w' ⟨rfl, rfl⟩
    rw [hL]
    go_wp2_with fail
    refine (f19_c _).mono ?_
    rintro e w9 ⟨rfl, hE9⟩
    go_wp2_with fail
    go_ret
    exact ⟨rfl, hE0.trans' hE9⟩

  obtain ⟨b1, b2⟩ := longB_no hL
  have CK := fun (k : Int) W (h : Ext w W) => f20_c a1 a2 n1 c1 n2 c2 l1 l2 k W (hl1.ext h) hn1 (by omega) (hl2.ext h) hn2 (by omega)
  have lt1 : l1.length ≤ 100 := by omega
  have lt2 : l2.length ≤ 100 := by omega
  have M1 := fun W (h : Ext w W) => f37_c a1 n1 c1 l1 W (hl1.ext h) hn1 (by omega)
  have M2 := fun W (h : Ext w W) => f37_c a2 n2 c2 l2 W (hl2.ext h) hn2 (by omega)
  have S1 := fun W (h : Ext w W) => f35_c a1 n1 c1 l1 d W (hl1.ext h) hn1 (by omega)
  have S2 := fun W (h : Ext w W) => f35_c a2 n2 c2 l2 d W (hl2.ext h) hn2 (by omega)
  have T1 := fun W (h : Ext w W) => f31_c a1 n1 c1 l1 W (hl1.ext h) hn1 (by omega)
  have p1 := mirrorV_len' l1 lt1
  have p2 := mirrorV_len' l2 lt2
  have p3 := shiftV_len' l1 d lt1
  have p4 := shiftV_len' l2 d lt2
  have CM := fun (k : Int) (a b : Option Addr) (c c' : Nat) (W : World) (h : Atoms W a (mirrorV l1)) (h' : Atoms W b (mirrorV l2)) => f20_c a b (mirrorV l1).length c (mirrorV l2).length c' (mirrorV l1) (mirrorV l2) k W h rfl (by omega) h' rfl (by omega)
  have CS := fun (k : Int) (a b : Option Addr) (c c' : Nat) (W : World) (h : Atoms W a (shiftV l1 d)) (h' : Atoms W b (shiftV l2 d)) => f20_c a b (shiftV l1 d).length c (shiftV l2 d).length c' (shiftV l1 d) (shiftV l2 d) k W h rfl (by omega) h' rfl (by omega)
  have C4 := fun (a : Option Addr) (c : Nat) (W : World) (hx : Ext w W) (h : Atoms W a (shiftV l1 d)) => f20_c a1 a n1 c1 (shiftV l1 d).length c l1 (shiftV l1 d) 1 W (hl1.ext hx) hn1 (by omega) h rfl (by omega)
  have tb := totV_bd' l1
  clear hn1 hn2 lt1 lt2
  have CK := Lib.hid CK
  have M1 := Lib.hid M1
  have M2 := Lib.hid M2
  have S1 := Lib.hid S1
  have S2 := Lib.hid S2
  have T1 := Lib.hid T1
  have CM := Lib.hid CM
  have CS := Lib.hid CS
  have C4 := Lib.hid C4
  by_cases he : linePair l1 l2 = 0
  case neg =>
    have HK : Hid (∀ k : Int, (k = 1 ∨ k = 2) → leastErr l1 l2 k ≠ 0) := Lib.hid (fun k _ h => he (leastErr_ok h).1)
    clear he M1 M2 S1 S2 T1 CM CS C4 p1 p2 p3 p4 tb
    go_enter Try.func10, Try.ntmps10
    go_wp2_with fail
    generalize w.alloc (.cells #[.slice a1 n1 c1, .slice a2 n2 c2] 24) = w0 at *
    go_wp2_with fail
    refine (f18_c _ _ _ _ _ _ _).mono ?_
    rintro e w' ⟨rfl, rfl⟩
    rw [hL]
    go_wp2_with fail
    go_loopw [5, 6, 7, 8, 9, 10, 11, 12, 13, 14, 15, 16, 17] (fun i _ _ _ _ _ _ _ _ _ _ _ _ wr => ∃ k : Nat, 1 ≤ k ∧ k ≤ 3 ∧ i = .int .i64 k ∧ Ext w0 wr) (fun i _ _ _ _ _ _ _ _ _ _ _ _ _ => 3 - (intOf i).toNat)
    case atStart => exact ⟨1, by omega, by omega, rfl, Below.refl _ _⟩
    case round =>
      obtain ⟨k, hk1, hk3, rfl, hY⟩ := hrel
      have hE := hE0.trans' hY
      clear k0 k1
      have k0 := (HB.out.ext hY).cellv 0 (v := .slice a1 n1 c1) rfl
      have k1 := (HB.out.ext hY).cellv 1 (v := .slice a2 n2 c2) rfl
      by_cases hlt : k ≤ 2
      case neg =>
        have hlt2 : ¬ (k : Int) ≤ 2 := by omega
        go_wp2_with fail
        refine (f19_c _).mono ?_
        rintro e w9 ⟨rfl, hE9⟩
        go_wp2_with fail
        go_ret
        exact ⟨rfl, hE.trans' hE9⟩
      have hlt2 : (k : Int) ≤ 2 := by omega
      have hkk : (k : Int) = 1 ∨ (k : Int) = 2 := by omega
      have hne : (leastErr l1 l2 k != 0) = true := by simpa using HK.out k hkk
      have C1 := CK.out (k : Int)
      have C1 := Lib.hid C1
      clear hkk
      generalize leastErr l1 l2 k = E1 at *
      generalize leastV l1 l2 k = V1 at *
      go_wp2_with fail
      refine (C1.out _ hE).mono ?_
      rintro e w1 ⟨rfl, hX1⟩
      have hE1 := hE.trans' hX1
      have hY1 := hY.trans' hX1
      have k0 := (HB.out.ext hY1).cellv 0 (v := .slice a1 n1 c1) rfl
      have k1 := (HB.out.ext hY1).cellv 1 (v := .slice a2 n2 c2) rfl
      go_wp2_with fail
      refine (f19_c _).mono ?_
      rintro e w9 ⟨rfl, hE9⟩
      go_wp2_with fail
      go_ret
      exact ⟨rfl, hE1.trans' hE9⟩

  have HK : Hid (∀ k : Int, (k = 1 ∨ k = 2) → leastErr l1 l2 k = 0) := Lib.hid (fun k hk => leastErr_mk he (by rcases hk with rfl | rfl <;> rfl))
  have HM : Hid (∀ k : Int, (k = 1 ∨ k = 2) → leastErr (mirrorV l1) (mirrorV l2) k = 0 ∧ leastV (mirrorV l1) (mirrorV l2) k = leastV l1 l2 k) := Lib.hid (fun k hk => (moved_mirror (HK.out k hk)).2.2)
  have g1 := (linePair_ok he).1
  have g2 := (linePair_ok he).2.1
  have M1 := Lib.hid (by have h := M1.out; rw [g1] at h; exact h)
  have M2 := Lib.hid (by have h := M2.out; rw [g2] at h; exact h)
  have T1 := Lib.hid (by have h := T1.out; rw [g1] at h; exact h)
  by_cases hs : shiftErr l1 d = 0 ∧ shiftErr l2 d = 0
  case neg =>
    by_cases h1 : shiftErr l1 d = 0
    · have h2 : (shiftErr l2 d != 0) = true := by simp; exact fun h => hs ⟨h1, h⟩
      have S1 := Lib.hid (by have h := S1.out; rw [h1] at h; exact h)
      clear hs h1 he g1 g2 C4 CS T1 tb
      generalize shiftErr l2 d = SE at *
      go_enter Try.func10, Try.ntmps10
      go_wp2_with fail
      generalize w.alloc (.cells #[.slice a1 n1 c1, .slice a2 n2 c2] 24) = w0 at *
      go_wp2_with fail
      refine (f18_c _ _ _ _ _ _ _).mono ?_
      rintro e w' ⟨rfl, rfl⟩
      rw [hL]
      go_wp2_with fail
      go_loopw [5, 6, 7, 8, 9, 10, 11, 12, 13, 14, 15, 16, 17] (fun i _ _ _ _ _ _ _ _ _ _ _ _ wr => ∃ k : Nat, 1 ≤ k ∧ k ≤ 3 ∧ i = .int .i64 k ∧ Ext w0 wr) (fun i _ _ _ _ _ _ _ _ _ _ _ _ _ => 3 - (intOf i).toNat)
      case atStart => exact ⟨1, by omega, by omega, rfl, Below.refl _ _⟩
      case round =>
        obtain ⟨k, hk1, hk3, rfl, hY⟩ := hrel
        have hE := hE0.trans' hY
        clear k0 k1
        have k0 := (HB.out.ext hY).cellv 0 (v := .slice a1 n1 c1) rfl
        have k1 := (HB.out.ext hY).cellv 1 (v := .slice a2 n2 c2) rfl
        by_cases hlt : k ≤ 2
        case neg =>
          have hlt2 : ¬ (k : Int) ≤ 2 := by omega
          go_wp2_with fail
          refine (f19_c _).mono ?_
          rintro e w9 ⟨rfl, hE9⟩
          go_wp2_with fail
          go_ret
          exact ⟨rfl, hE.trans' hE9⟩
        have hlt2 : (k : Int) ≤ 2 := by omega
        have hkk : (k : Int) = 1 ∨ (k : Int) = 2 := by omega
        have C1 := CK.out (k : Int)
        rw [HK.out k hkk] at C1
        have C1 := Lib.hid C1
        obtain ⟨m1', m2'⟩ := HM.out k hkk
        have C2 := CM.out (k : Int)
        rw [m1', m2'] at C2
        have C2 := Lib.hid C2
        clear m1' m2' hkk
        generalize leastV l1 l2 k = V1 at *
        generalize mirrorV l1 = MA at *
        generalize mirrorV l2 = MB at *
        generalize shiftV l1 d = SA at *
        generalize shiftV l2 d = SB at *
        go_wp2_with fail
        refine (C1.out _ hE).mono ?_
        rintro e w1 ⟨rfl, hX1⟩
        have hE1 := hE.trans' hX1
        have hY1 := hY.trans' hX1
        have k0 := (HB.out.ext hY1).cellv 0 (v := .slice a1 n1 c1) rfl
        have k1 := (HB.out.ext hY1).cellv 1 (v := .slice a2 n2 c2) rfl
        go_wp2_with fail
        refine (M1.out _ hE1).mono ?_
        rintro e w2 hR2
        obtain ⟨aP, cP, rfl, hP, hX2⟩ := hR2.open_
        have HP := Lib.hid hP
        clear hR2 hP
        have hE2 := hE1.trans' hX2
        have hY2 := hY1.trans' hX2
        have k0 := (HB.out.ext hY2).cellv 0 (v := .slice a1 n1 c1) rfl
        have k1 := (HB.out.ext hY2).cellv 1 (v := .slice a2 n2 c2) rfl
        go_wp2_with fail
        refine (M2.out _ hE2).mono ?_
        rintro e w3 hR3
        obtain ⟨aQ, cQ, rfl, hQ, hX3⟩ := hR3.open_
        have HQ := Lib.hid hQ
        clear hR3 hQ
        have hE3 := hE2.trans' hX3
        have hY3 := hY2.trans' hX3
        have k0 := (HB.out.ext hY3).cellv 0 (v := .slice a1 n1 c1) rfl
        have k1 := (HB.out.ext hY3).cellv 1 (v := .slice a2 n2 c2) rfl
        go_wp2_with fail
        refine (C2.out _ _ _ _ _ (HP.out.ext hX3) HQ.out).mono ?_
        rintro e w4 ⟨rfl, hX4⟩
        have hE4 := hE3.trans' hX4
        have hY4 := hY3.trans' hX4
        have k0 := (HB.out.ext hY4).cellv 0 (v := .slice a1 n1 c1) rfl
        have k1 := (HB.out.ext hY4).cellv 1 (v := .slice a2 n2 c2) rfl
        go_wp2_with fail
        refine (S1.out _ hE4).mono ?_
        rintro e w5 hR5
        obtain ⟨aR, cR, rfl, hR, hX5⟩ := hR5.open_
        have HR := Lib.hid hR
        clear hR5 hR
        have hE5 := hE4.trans' hX5
        have hY5 := hY4.trans' hX5
        have k0 := (HB.out.ext hY5).cellv 0 (v := .slice a1 n1 c1) rfl
        have k1 := (HB.out.ext hY5).cellv 1 (v := .slice a2 n2 c2) rfl
        go_wp2_with fail
        refine (S2.out _ hE5).mono ?_
        rintro e w6 hR6
        obtain ⟨aT, cT, rfl, hT, hX6⟩ := hR6.open_
        have HT := Lib.hid hT
        clear hR6 hT
        have hE6 := hE5.trans' hX6
        have hY6 := hY5.trans' hX6
        have k0 := (HB.out.ext hY6).cellv 0 (v := .slice a1 n1 c1) rfl
        have k1 := (HB.out.ext hY6).cellv 1 (v := .slice a2 n2 c2) rfl
        go_wp2_with fail
        go_roundw
        case rel => exact ⟨k + 1, by omega, by omega, by go_num, hY6⟩
        case measure => simp [intOf]; omega

    · have h2 : (shiftErr l1 d != 0) = true := by simp [h1]
      clear hs h1 he g1 g2 C4 CS T1 tb
      generalize shiftErr l1 d = SE at *
      generalize shiftErr l2 d = SE2 at *
      go_enter Try.func10, Try.ntmps10
      go_wp2_with fail
      generalize w.alloc (.cells #[.slice a1 n1 c1, .slice a2 n2 c2] 24) = w0 at *
      go_wp2_with fail
      refine (f18_c _ _ _ _ _ _ _).mono ?_
      rintro e w' ⟨rfl, rfl⟩
      rw [hL]
      go_wp2_with fail
      go_loopw [5, 6, 7, 8, 9, 10, 11, 12, 13, 14, 15, 16, 17] (fun i _ _ _ _ _ _ _ _ _ _ _ _ wr => ∃ k : Nat, 1 ≤ k ∧ k ≤ 3 ∧ i = .int .i64 k ∧ Ext w0 wr) (fun i _ _ _ _ _ _ _ _ _ _ _ _ _ => 3 - (intOf i).toNat)
      case atStart => exact ⟨1, by omega, by omega, rfl, Below.refl _ _⟩
      case round =>
        obtain ⟨k, hk1, hk3, rfl, hY⟩ := hrel
        have hE := hE0.trans' hY
        clear k0 k1
        have k0 := (HB.out.ext hY).cellv 0 (v := .slice a1 n1 c1) rfl
        have k1 := (HB.out.ext hY).cellv 1 (v := .slice a2 n2 c2) rfl
        by_cases hlt : k ≤ 2
        case neg =>
          have hlt2 : ¬ (k : Int) ≤ 2 := by omega
          go_wp2_with fail
          refine (f19_c _).mono ?_
          rintro e w9 ⟨rfl, hE9⟩
          go_wp2_with fail
          go_ret
          exact ⟨rfl, hE.trans' hE9⟩
        have hlt2 : (k : Int) ≤ 2 := by omega
        have hkk : (k : Int) = 1 ∨ (k : Int) = 2 := by omega
        have C1 := CK.out (k : Int)
        rw [HK.out k hkk] at C1
        have C1 := Lib.hid C1
        obtain ⟨m1', m2'⟩ := HM.out k hkk
        have C2 := CM.out (k : Int)
        rw [m1', m2'] at C2
        have C2 := Lib.hid C2
        clear m1' m2' hkk
        generalize leastV l1 l2 k = V1 at *
        generalize mirrorV l1 = MA at *
        generalize mirrorV l2 = MB at *
        generalize shiftV l1 d = SA at *
        generalize shiftV l2 d = SB at *
        go_wp2_with fail
        refine (C1.out _ hE).mono ?_
        rintro e w1 ⟨rfl, hX1⟩
        have hE1 := hE.trans' hX1
        have hY1 := hY.trans' hX1
        have k0 := (HB.out.ext hY1).cellv 0 (v := .slice a1 n1 c1) rfl
        have k1 := (HB.out.ext hY1).cellv 1 (v := .slice a2 n2 c2) rfl
        go_wp2_with fail
        refine (M1.out _ hE1).mono ?_
        rintro e w2 hR2
        obtain ⟨aP, cP, rfl, hP, hX2⟩ := hR2.open_
        have HP := Lib.hid hP
        clear hR2 hP
        have hE2 := hE1.trans' hX2
        have hY2 := hY1.trans' hX2
        have k0 := (HB.out.ext hY2).cellv 0 (v := .slice a1 n1 c1) rfl
        have k1 := (HB.out.ext hY2).cellv 1 (v := .slice a2 n2 c2) rfl
        go_wp2_with fail
        refine (M2.out _ hE2).mono ?_
        rintro e w3 hR3
        obtain ⟨aQ, cQ, rfl, hQ, hX3⟩ := hR3.open_
        have HQ := Lib.hid hQ
        clear hR3 hQ
        have hE3 := hE2.trans' hX3
        have hY3 := hY2.trans' hX3
        have k0 := (HB.out.ext hY3).cellv 0 (v := .slice a1 n1 c1) rfl
        have k1 := (HB.out.ext hY3).cellv 1 (v := .slice a2 n2 c2) rfl
        go_wp2_with fail
        refine (C2.out _ _ _ _ _ (HP.out.ext hX3) HQ.out).mono ?_
        rintro e w4 ⟨rfl, hX4⟩
        have hE4 := hE3.trans' hX4
        have hY4 := hY3.trans' hX4
        have k0 := (HB.out.ext hY4).cellv 0 (v := .slice a1 n1 c1) rfl
        have k1 := (HB.out.ext hY4).cellv 1 (v := .slice a2 n2 c2) rfl
        go_wp2_with fail
        refine (S1.out _ hE4).mono ?_
        rintro e w5 hR5
        obtain ⟨aR, cR, rfl, hR, hX5⟩ := hR5.open_
        have HR := Lib.hid hR
        clear hR5 hR
        have hE5 := hE4.trans' hX5
        have hY5 := hY4.trans' hX5
        have k0 := (HB.out.ext hY5).cellv 0 (v := .slice a1 n1 c1) rfl
        have k1 := (HB.out.ext hY5).cellv 1 (v := .slice a2 n2 c2) rfl
        go_wp2_with fail
        refine (S2.out _ hE5).mono ?_
        rintro e w6 hR6
        obtain ⟨aT, cT, rfl, hT, hX6⟩ := hR6.open_
        have HT := Lib.hid hT
        clear hR6 hT
        have hE6 := hE5.trans' hX6
        have hY6 := hY5.trans' hX6
        have k0 := (HB.out.ext hY6).cellv 0 (v := .slice a1 n1 c1) rfl
        have k1 := (HB.out.ext hY6).cellv 1 (v := .slice a2 n2 c2) rfl
        go_wp2_with fail
        go_roundw
        case rel => exact ⟨k + 1, by omega, by omega, by go_num, hY6⟩
        case measure => simp [intOf]; omega

  have HF : Hid (∀ k : Int, (k = 1 ∨ k = 2) → leastErr (shiftV l1 d) (shiftV l2 d) k = 0 ∧ leastV (shiftV l1 d) (shiftV l2 d) k = leastV l1 l2 k) := Lib.hid (fun k hk => by have := moved_shift (HK.out k hk) hs.1 hs.2; exact ⟨this.1, this.2.1⟩)
  obtain ⟨-, -, f3, f4⟩ := moved_shift (HK.out 1 (.inl rfl)) hs.1 hs.2
  have htp := tot_pos (l := l1) (d := d) hs.1
  have S1 := Lib.hid (by have h := S1.out; rw [hs.1] at h; exact h)
  have S2 := Lib.hid (by have h := S2.out; rw [hs.2] at h; exact h)
  have C4 := Lib.hid (by have h := C4.out; rw [f3, f4] at h; exact h)
  clear hs he g1 g2 f3 f4
  generalize totV l1 = TT at *
  by_cases ht : 0 < TT
  · have hd := htp ht
    have d1 : decide (0 < TT) = true := by simpa using ht
    have m1 : max d (-d) = distI 0 d := by unfold distI; split <;> omega
    have hdb : 0 ≤ distI 0 d ∧ distI 0 d ≤ 2000 := by unfold distI; split <;> omega
    have hmb := mulbd (a := TT) (b := distI 0 d) (A := 180) (B := 2000) (by omega) (by omega)
    clear htp ht
    generalize distI 0 d = DD at *
    go_enter Try.func10, Try.ntmps10
    go_wp2_with fail
    generalize w.alloc (.cells #[.slice a1 n1 c1, .slice a2 n2 c2] 24) = w0 at *
    go_wp2_with fail
    refine (f18_c _ _ _ _ _ _ _).mono ?_
    rintro e w' ⟨rfl, rfl⟩
    rw [hL]
    go_wp2_with fail
    go_loopw [5, 6, 7, 8, 9, 10, 11, 12, 13, 14, 15, 16, 17] (fun i _ _ _ _ _ _ _ _ _ _ _ _ wr => ∃ k : Nat, 1 ≤ k ∧ k ≤ 3 ∧ i = .int .i64 k ∧ Ext w0 wr) (fun i _ _ _ _ _ _ _ _ _ _ _ _ _ => 3 - (intOf i).toNat)
    case atStart => exact ⟨1, by omega, by omega, rfl, Below.refl _ _⟩
    case round =>
      obtain ⟨k, hk1, hk3, rfl, hY⟩ := hrel
      have hE := hE0.trans' hY
      clear k0 k1
      have k0 := (HB.out.ext hY).cellv 0 (v := .slice a1 n1 c1) rfl
      have k1 := (HB.out.ext hY).cellv 1 (v := .slice a2 n2 c2) rfl
      by_cases hlt : k ≤ 2
      case neg =>
        have hlt2 : ¬ (k : Int) ≤ 2 := by omega
        go_wp2_with fail
        refine (f19_c _).mono ?_
        rintro e w9 ⟨rfl, hE9⟩
        go_wp2_with fail
        go_ret
        exact ⟨rfl, hE.trans' hE9⟩
      have hlt2 : (k : Int) ≤ 2 := by omega
      have hkk : (k : Int) = 1 ∨ (k : Int) = 2 := by omega
      have C1 := CK.out (k : Int)
      rw [HK.out k hkk] at C1
      have C1 := Lib.hid C1
      obtain ⟨m1', m2'⟩ := HM.out k hkk
      have C2 := CM.out (k : Int)
      rw [m1', m2'] at C2
      have C2 := Lib.hid C2
      obtain ⟨m3', m4'⟩ := HF.out k hkk
      have C3 := CS.out (k : Int)
      rw [m3', m4'] at C3
      have C3 := Lib.hid C3
      clear m1' m2' m3' m4' hkk
      generalize leastV l1 l2 k = V1 at *
      generalize mirrorV l1 = MA at *
      generalize mirrorV l2 = MB at *
      generalize shiftV l1 d = SA at *
      generalize shiftV l2 d = SB at *
      go_wp2_with fail
      refine (C1.out _ hE).mono ?_
      rintro e w1 ⟨rfl, hX1⟩
      have hE1 := hE.trans' hX1
      have hY1 := hY.trans' hX1
      have k0 := (HB.out.ext hY1).cellv 0 (v := .slice a1 n1 c1) rfl
      have k1 := (HB.out.ext hY1).cellv 1 (v := .slice a2 n2 c2) rfl
      go_wp2_with fail
      refine (M1.out _ hE1).mono ?_
      rintro e w2 hR2
      obtain ⟨aP, cP, rfl, hP, hX2⟩ := hR2.open_
      have HP := Lib.hid hP
      clear hR2 hP
      have hE2 := hE1.trans' hX2
      have hY2 := hY1.trans' hX2
      have k0 := (HB.out.ext hY2).cellv 0 (v := .slice a1 n1 c1) rfl
      have k1 := (HB.out.ext hY2).cellv 1 (v := .slice a2 n2 c2) rfl
      go_wp2_with fail
      refine (M2.out _ hE2).mono ?_
      rintro e w3 hR3
      obtain ⟨aQ, cQ, rfl, hQ, hX3⟩ := hR3.open_
      have HQ := Lib.hid hQ
      clear hR3 hQ
      have hE3 := hE2.trans' hX3
      have hY3 := hY2.trans' hX3
      have k0 := (HB.out.ext hY3).cellv 0 (v := .slice a1 n1 c1) rfl
      have k1 := (HB.out.ext hY3).cellv 1 (v := .slice a2 n2 c2) rfl
      go_wp2_with fail
      refine (C2.out _ _ _ _ _ (HP.out.ext hX3) HQ.out).mono ?_
      rintro e w4 ⟨rfl, hX4⟩
      have hE4 := hE3.trans' hX4
      have hY4 := hY3.trans' hX4
      have k0 := (HB.out.ext hY4).cellv 0 (v := .slice a1 n1 c1) rfl
      have k1 := (HB.out.ext hY4).cellv 1 (v := .slice a2 n2 c2) rfl
      go_wp2_with fail
      refine (S1.out _ hE4).mono ?_
      rintro e w5 hR5
      obtain ⟨aR, cR, rfl, hR, hX5⟩ := hR5.open_
      have HR := Lib.hid hR
      clear hR5 hR
      have hE5 := hE4.trans' hX5
      have hY5 := hY4.trans' hX5
      have k0 := (HB.out.ext hY5).cellv 0 (v := .slice a1 n1 c1) rfl
      have k1 := (HB.out.ext hY5).cellv 1 (v := .slice a2 n2 c2) rfl
      go_wp2_with fail
      refine (S2.out _ hE5).mono ?_
      rintro e w6 hR6
      obtain ⟨aT, cT, rfl, hT, hX6⟩ := hR6.open_
      have HT := Lib.hid hT
      clear hR6 hT
      have hE6 := hE5.trans' hX6
      have hY6 := hY5.trans' hX6
      have k0 := (HB.out.ext hY6).cellv 0 (v := .slice a1 n1 c1) rfl
      have k1 := (HB.out.ext hY6).cellv 1 (v := .slice a2 n2 c2) rfl
      go_wp2_with fail
      refine (C3.out _ _ _ _ _ (HR.out.ext hX6) HT.out).mono ?_
      rintro e w7 ⟨rfl, hX7⟩
      have hE7 := hE6.trans' hX7
      have hY7 := hY6.trans' hX7
      have k0 := (HB.out.ext hY7).cellv 0 (v := .slice a1 n1 c1) rfl
      have k1 := (HB.out.ext hY7).cellv 1 (v := .slice a2 n2 c2) rfl
      go_wp2_with fail
      refine (T1.out _ hE7).mono ?_
      rintro e w8 ⟨rfl, hX8⟩
      have hE8 := hE7.trans' hX8
      have hY8 := hY7.trans' hX8
      have k0 := (HB.out.ext hY8).cellv 0 (v := .slice a1 n1 c1) rfl
      have k1 := (HB.out.ext hY8).cellv 1 (v := .slice a2 n2 c2) rfl
      go_wp2_with fail
      refine (C4.out _ _ _ hE8 (HR.out.ext (hX6.trans' (hX7.trans' hX8)))).mono ?_
      rintro e w9 ⟨rfl, hX9⟩
      have hE9 := hE8.trans' hX9
      have hY9 := hY8.trans' hX9
      have k0 := (HB.out.ext hY9).cellv 0 (v := .slice a1 n1 c1) rfl
      have k1 := (HB.out.ext hY9).cellv 1 (v := .slice a2 n2 c2) rfl
      go_wp2_with fail
      go_roundw
      case rel => exact ⟨k + 1, by omega, by omega, by go_num, hY9⟩
      case measure => simp [intOf]; omega

  · have d1 : decide (0 < TT) = false := by simpa using ht
    clear htp
    generalize TT * distI 0 d = DD at *
    go_enter Try.func10, Try.ntmps10
    go_wp2_with fail
    generalize w.alloc (.cells #[.slice a1 n1 c1, .slice a2 n2 c2] 24) = w0 at *
    go_wp2_with fail
    refine (f18_c _ _ _ _ _ _ _).mono ?_
    rintro e w' ⟨rfl, rfl⟩
    rw [hL]
    go_wp2_with fail
    go_loopw [5, 6, 7, 8, 9, 10, 11, 12, 13, 14, 15, 16, 17] (fun i _ _ _ _ _ _ _ _ _ _ _ _ wr => ∃ k : Nat, 1 ≤ k ∧ k ≤ 3 ∧ i = .int .i64 k ∧ Ext w0 wr) (fun i _ _ _ _ _ _ _ _ _ _ _ _ _ => 3 - (intOf i).toNat)
    case atStart => exact ⟨1, by omega, by omega, rfl, Below.refl _ _⟩
    case round =>
      obtain ⟨k, hk1, hk3, rfl, hY⟩ := hrel
      have hE := hE0.trans' hY
      clear k0 k1
      have k0 := (HB.out.ext hY).cellv 0 (v := .slice a1 n1 c1) rfl
      have k1 := (HB.out.ext hY).cellv 1 (v := .slice a2 n2 c2) rfl
      by_cases hlt : k ≤ 2
      case neg =>
        have hlt2 : ¬ (k : Int) ≤ 2 := by omega
        go_wp2_with fail
        refine (f19_c _).mono ?_
        rintro e w9 ⟨rfl, hE9⟩
        go_wp2_with fail
        go_ret
        exact ⟨rfl, hE.trans' hE9⟩
      have hlt2 : (k : Int) ≤ 2 := by omega
      have hkk : (k : Int) = 1 ∨ (k : Int) = 2 := by omega
      have C1 := CK.out (k : Int)
      rw [HK.out k hkk] at C1
      have C1 := Lib.hid C1
      obtain ⟨m1', m2'⟩ := HM.out k hkk
      have C2 := CM.out (k : Int)
      rw [m1', m2'] at C2
      have C2 := Lib.hid C2
      obtain ⟨m3', m4'⟩ := HF.out k hkk
      have C3 := CS.out (k : Int)
      rw [m3', m4'] at C3
      have C3 := Lib.hid C3
      clear m1' m2' m3' m4' hkk
      generalize leastV l1 l2 k = V1 at *
      generalize mirrorV l1 = MA at *
      generalize mirrorV l2 = MB at *
      generalize shiftV l1 d = SA at *
      generalize shiftV l2 d = SB at *
      go_wp2_with fail
      refine (C1.out _ hE).mono ?_
      rintro e w1 ⟨rfl, hX1⟩
      have hE1 := hE.trans' hX1
      have hY1 := hY.trans' hX1
      have k0 := (HB.out.ext hY1).cellv 0 (v := .slice a1 n1 c1) rfl
      have k1 := (HB.out.ext hY1).cellv 1 (v := .slice a2 n2 c2) rfl
      go_wp2_with fail
      refine (M1.out _ hE1).mono ?_
      rintro e w2 hR2
      obtain ⟨aP, cP, rfl, hP, hX2⟩ := hR2.open_
      have HP := Lib.hid hP
      clear hR2 hP
      have hE2 := hE1.trans' hX2
      have hY2 := hY1.trans' hX2
      have k0 := (HB.out.ext hY2).cellv 0 (v := .slice a1 n1 c1) rfl
      have k1 := (HB.out.ext hY2).cellv 1 (v := .slice a2 n2 c2) rfl
      go_wp2_with fail
      refine (M2.out _ hE2).mono ?_
      rintro e w3 hR3
      obtain ⟨aQ, cQ, rfl, hQ, hX3⟩ := hR3.open_
      have HQ := Lib.hid hQ
      clear hR3 hQ
      have hE3 := hE2.trans' hX3
      have hY3 := hY2.trans' hX3
      have k0 := (HB.out.ext hY3).cellv 0 (v := .slice a1 n1 c1) rfl
      have k1 := (HB.out.ext hY3).cellv 1 (v := .slice a2 n2 c2) rfl
      go_wp2_with fail
      refine (C2.out _ _ _ _ _ (HP.out.ext hX3) HQ.out).mono ?_
      rintro e w4 ⟨rfl, hX4⟩
      have hE4 := hE3.trans' hX4
      have hY4 := hY3.trans' hX4
      have k0 := (HB.out.ext hY4).cellv 0 (v := .slice a1 n1 c1) rfl
      have k1 := (HB.out.ext hY4).cellv 1 (v := .slice a2 n2 c2) rfl
      go_wp2_with fail
      refine (S1.out _ hE4).mono ?_
      rintro e w5 hR5
      obtain ⟨aR, cR, rfl, hR, hX5⟩ := hR5.open_
      have HR := Lib.hid hR
      clear hR5 hR
      have hE5 := hE4.trans' hX5
      have hY5 := hY4.trans' hX5
      have k0 := (HB.out.ext hY5).cellv 0 (v := .slice a1 n1 c1) rfl
      have k1 := (HB.out.ext hY5).cellv 1 (v := .slice a2 n2 c2) rfl
      go_wp2_with fail
      refine (S2.out _ hE5).mono ?_
      rintro e w6 hR6
      obtain ⟨aT, cT, rfl, hT, hX6⟩ := hR6.open_
      have HT := Lib.hid hT
      clear hR6 hT
      have hE6 := hE5.trans' hX6
      have hY6 := hY5.trans' hX6
      have k0 := (HB.out.ext hY6).cellv 0 (v := .slice a1 n1 c1) rfl
      have k1 := (HB.out.ext hY6).cellv 1 (v := .slice a2 n2 c2) rfl
      go_wp2_with fail
      refine (C3.out _ _ _ _ _ (HR.out.ext hX6) HT.out).mono ?_
      rintro e w7 ⟨rfl, hX7⟩
      have hE7 := hE6.trans' hX7
      have hY7 := hY6.trans' hX7
      have k0 := (HB.out.ext hY7).cellv 0 (v := .slice a1 n1 c1) rfl
      have k1 := (HB.out.ext hY7).cellv 1 (v := .slice a2 n2 c2) rfl
      go_wp2_with fail
      refine (T1.out _ hE7).mono ?_
      rintro e w8 ⟨rfl, hX8⟩
      have hE8 := hE7.trans' hX8
      have hY8 := hY7.trans' hX8
      have k0 := (HB.out.ext hY8).cellv 0 (v := .slice a1 n1 c1) rfl
      have k1 := (HB.out.ext hY8).cellv 1 (v := .slice a2 n2 c2) rfl
      go_wp2_with fail
      refine (C4.out _ _ _ hE8 (HR.out.ext (hX6.trans' (hX7.trans' hX8)))).mono ?_
      rintro e w9 ⟨rfl, hX9⟩
      have hE9 := hE8.trans' hX9
      have hY9 := hY8.trans' hX9
      have k0 := (HB.out.ext hY9).cellv 0 (v := .slice a1 n1 c1) rfl
      have k1 := (HB.out.ext hY9).cellv 1 (v := .slice a2 n2 c2) rfl
      go_wp2_with fail
      go_roundw
      case rel => exact ⟨k + 1, by omega, by omega, by go_num, hY9⟩
      case measure => simp [intOf]; omega

end Go.Proofs.Ytfhgnmijigdlmaa