/- TopLines: the law's walk. -/
import Derived.Deep.LoopGhost
import Derived.Deep.Cut
import Derived.Deep.CutRange
import Derived.Deep.DeepCutAuto
import Derived.Deep.RegionWith
import Derived.Deep.RegionHeld3
import Derived.RegionTactic
import Derived.BigRegion
import Derived.Test.YtfhgnmijigdlmaaU7
import Derived.Test.YtfhgnmijigdlmaaU9
import Derived.Test.YtfhgnmijigdlmaaT15
import Derived.Test.YtfhgnmijigdlmaaT11
import Derived.Test.YtfhgnmijigdlmaaT1
namespace Go.Proofs.Ytfhgnmijigdlmaa.Tr
open Go.RowKit
attribute [local go_sem] GW.cell
theorem area_first : areaV [⟨1, 3⟩] [⟨5, 3⟩] = 12 ∧ linePair [⟨1, 3⟩] [⟨5, 3⟩] = 0 := by
  have h : linePair [⟨1, 3⟩] [⟨5, 3⟩] = 0 := by decide
  refine ⟨?_, h⟩
  unfold areaV
  rw [if_pos h, area_said h]
  decide
theorem err_pair (a b : List Atom) : leastErr a b 1 = linePair a b := by
  by_cases h : linePair a b = 0
  · rw [h]; exact leastErr_mk h rfl
  · unfold leastErr linePair
    split
    · rfl
    · rfl
theorem right_some {a b : List Atom} (h : linePair a b = 0) (ha : 1 ≤ a.length) : 1 ≤ b.length := by
  obtain ⟨h1, h2, h3⟩ := linePair_ok h
  rcases Nat.eq_zero_or_pos b.length with e | e
  · have hb : b = [] := List.eq_nil_of_length_eq_zero e
    subst hb
    have h4 : totalL (a.take (a.length - 1 + 1)) = totalL (a.take (a.length - 1)) + a[a.length - 1].m := take_sum a (by omega)
    have h5 := (isListB_mem (listErr_ok h1).2 (List.getElem_mem (show a.length - 1 < a.length by omega))).2
    have h6 := (total_bd (by omega) (listErr_ok h1).2 (a.length - 1) (by omega)).1
    rw [show a.length - 1 + 1 = a.length by omega, List.take_length] at h4
    have h9 : totalL ([] : List Atom) = 0 := rfl
    omega
  · exact e
theorem planO_bd {a b : List Atom} (h : linePair a b = 0) : ∀ s, s ≤ (ordL a b).length → ∀ i j, 0 ≤ planO a b s i j ∧ planO a b s i j ≤ 30 * s
  | 0, _, i, j => by show (0 : Int) ≤ 0 ∧ (0 : Int) ≤ 30 * ((0 : Nat) : Int); omega
  | s + 1, hs, i, j => by
    have h1 := planO_bd h s (by omega) i j
    have h2 := (ord_ok h).mas s (by omega)
    unfold planO at *
    rw [planG_succ]
    split <;> omega
theorem mk_zero (a b : List Atom) (n m : Nat) : mk n m (planO a b 0) = emptyT n m := by
  rw [← mk_of (emptyT_shape n m).1 (emptyT_shape n m).2]
  exact mk_eq fun i j _ _ => by rw [tg_emptyT]; rfl
theorem plan_tok {a b : List Atom} (h : linePair a b = 0) (a1 : 1 ≤ a.length) (a5 : a.length ≤ 5) (b1 : 1 ≤ b.length) (b5 : b.length ≤ 5) : TOk a.length b.length 0 150 (mk a.length b.length (planO a b (ordL a b).length)) := by
  obtain ⟨h1, h2, h3⟩ := linePair_ok h
  obtain ⟨o1, o2, o3⟩ := ord_plan h
  refine ⟨a1, a5, b1, b5, mk_len _ _ _, fun i hi => mk_cols _ hi, fun i j hi hj => ?_⟩
  rw [tg_mk _ hi hj]
  have t1 := sumN_term (f := planO a b (ordL a b).length i) (n := b.length) (fun j _ => o3 i j) hj
  rw [o1.rows i hi] at t1
  have t2 := (mass_bd h1 hi).2
  have t3 := o3 i j
  have t4 : planO a b (ordL a b).length i j ≤ (atK a i).m := t1
  omega
theorem plan_mk {a b : List Atom} (h : linePair a b = 0) : PlanT a.length b.length (gi (masL a)) (gi (masL b)) (tg (mk a.length b.length (planO a b (ordL a b).length))) := by
  obtain ⟨o1, o2, o3⟩ := ord_plan h
  refine ⟨fun i j hi hj => by rw [tg_mk _ hi hj]; exact o3 i j, fun i hi => ?_, fun j hj => ?_⟩
  · rw [masL_gi hi, ← o1.rows i hi]
    exact sumN_congr fun j hj => tg_mk _ hi hj
  · rw [masL_gi hj, ← o1.cols j hj]
    exact sumN_congr fun i hi => tg_mk _ hi hj
theorem plan_sp {a b : List Atom} (h : linePair a b = 0) (k : Int) : spTo (betT a b k) (mk a.length b.length (planO a b (ordL a b).length)) b.length a.length = apartL a b k := by
  obtain ⟨o1, o2, o3⟩ := ord_plan h
  rw [spTo_sum, ← o2 k]
  unfold costT
  refine sumN_congr fun i hi => sumN_congr fun j hj => ?_
  rw [betT_tg hi hj, tg_mk _ hi hj]
set_option maxRecDepth 20000 in
set_option maxHeartbeats 32000000 in
theorem lines_top (w : World) (a1 : Option Addr) (n1 c1 : Nat) (a : List Atom) (hl1 : Atoms w a1 a) (hn1 : a.length = n1) (a2 : Option Addr) (n2 c2 : Nat) (b : List Atom) (hl2 : Atoms w a2 b) (hn2 : b.length = n2) :
    Calls Try.prog 17 #[.agg #[.slice a1 n1 c1, .slice a2 n2 c2]] w fun e w' => e = .returned (.bool true) ∧ Below w.heap.size w w' := by
  have hE0 := ext_alloc w (.cells #[.slice a1 n1 c1, .slice a2 n2 c2] 24)
  have HB := Lib.hid (BlkC.new w #[.slice a1 n1 c1, .slice a2 n2 c2] 24)
  have g0 := HB.out.cellv 0 (v := .slice a1 n1 c1) rfl
  have g1 := HB.out.cellv 1 (v := .slice a2 n2 c2) rfl
  have hz := HB.out.lt
  have HN1 := Lib.hid hn1
  have HN2 := Lib.hid hn2
  have HA := Lib.hid hl1
  have HC := Lib.hid hl2
  clear hn1 hn2 hl1 hl2
  go_enter Try.func17, Try.ntmps17
  go_upto_region 1 with fail
  generalize (w.alloc (.cells #[.slice a1 n1 c1, .slice a2 n2 c2] 24)) = w0 at *
  have hP1 := (atoms_new1 w0 ⟨1, 3⟩ 50).ext (ext_alloc _ (.cells #[.int .i64 5, .int .i64 3] 50))
  have hP2 := atoms_new1 (w0.alloc (.cells #[.int .i64 1, .int .i64 3] 50)) ⟨5, 3⟩ 50
  rw [show (w0.alloc (.cells #[.int .i64 1, .int .i64 3] 50)).heap.size = w0.heap.size + 1 by simp] at hP2
  have C26 := f26_c (some ⟨w0.heap.size, 0, none⟩) (some ⟨w0.heap.size + 1, 0, none⟩) 1 1 1 1 [⟨1, 3⟩] [⟨5, 3⟩] _ hP1 rfl (by omega) hP2 rfl (by omega)
  rw [area_first.1, area_first.2] at C26
  have C26 := Lib.hid C26
  have hX0 := (ext_alloc w0 (.cells #[.int .i64 1, .int .i64 3] 50)).trans' (ext_alloc _ (.cells #[.int .i64 5, .int .i64 3] 50))
  clear hP1 hP2
  go_wp2_with fail
  refine C26.out.mono ?_
  clear C26
  rintro e w1 ⟨rfl, hX1⟩
  have hY1 := hX0.trans' hX1
  have hE1 := hE0.trans' hY1
  clear hX0 hX1
  clear g0 g1 hz
  have g0 := (HB.out.ext hY1).cellv 0 (v := .slice a1 n1 c1) rfl
  have g1 := (HB.out.ext hY1).cellv 1 (v := .slice a2 n2 c2) rfl
  have hz := (HB.out.ext hY1).lt
  by_cases hla : 100 < n1
  · have hd := decide_eq_true (show (100 : Int) < (n1 : Int) by omega)
    go_wp2_with fail
    go_ret
    exact ⟨rfl, hE1⟩
  have hd1 := decide_eq_false (show ¬ (100 : Int) < (n1 : Int) by omega)
  by_cases hlb : 100 < n2
  · have hd := decide_eq_true (show (100 : Int) < (n2 : Int) by omega)
    go_wp2_with fail
    go_ret
    exact ⟨rfl, hE1⟩
  have hd2 := decide_eq_false (show ¬ (100 : Int) < (n2 : Int) by omega)
  have C20 := Lib.hid (fun k W (hW : Ext w W) => f20_c a1 a2 n1 c1 n2 c2 a b k W (HA.out.ext hW) HN1.out (by omega) (HC.out.ext hW) HN2.out (by omega))
  have C20b := Lib.hid (fun W hW => C20.out 1 W hW)
  have C43 := Lib.hid (fun W (hW : Ext w W) => f43_c a1 a2 n1 c1 n2 c2 a b W (HA.out.ext hW) HN1.out (by omega) (HC.out.ext hW) HN2.out (by omega))
  have C21 := Lib.hid (fun W (hW : Ext w W) => f21_c a1 a2 n1 c1 n2 c2 a b W (HA.out.ext hW) HN1.out (by omega) (HC.out.ext hW) HN2.out (by omega))
  have C33 := Lib.hid (fun W (hW : Ext w W) => f33_c a1 a2 n1 c1 n2 c2 a b W (HA.out.ext hW) HN1.out (by omega) (HC.out.ext hW) HN2.out (by omega))
  rw [err_pair] at C20b
  go_wp2_with fail
  clear hd1 hd2
  refine (C20b.out _ hE1).mono ?_
  rintro e w2 ⟨rfl, hX2⟩
  have hE2 := hE1.trans' hX2
  have hY2 := hY1.trans' hX2
  clear g0 g1 hz
  have g0 := (HB.out.ext hY2).cellv 0 (v := .slice a1 n1 c1) rfl
  have g1 := (HB.out.ext hY2).cellv 1 (v := .slice a2 n2 c2) rfl
  have hz := (HB.out.ext hY2).lt
  go_wp2_with fail
  refine (C43.out _ hE2).mono ?_
  rintro e w3 ⟨aH, cH, rfl, hIH, hX3⟩
  have hE3 := hE2.trans' hX3
  have hY3 := hY2.trans' hX3
  clear g0 g1 hz
  have g0 := (HB.out.ext hY3).cellv 0 (v := .slice a1 n1 c1) rfl
  have g1 := (HB.out.ext hY3).cellv 1 (v := .slice a2 n2 c2) rfl
  have hz := (HB.out.ext hY3).lt
  go_wp2_with fail
  refine (C21.out _ hE3).mono ?_
  rintro e w4 ⟨aL, cL, rfl, hIL, hX4⟩
  have hE4 := hE3.trans' hX4
  have hY4 := hY3.trans' hX4
  clear g0 g1 hz
  have g0 := (HB.out.ext hY4).cellv 0 (v := .slice a1 n1 c1) rfl
  have g1 := (HB.out.ext hY4).cellv 1 (v := .slice a2 n2 c2) rfl
  have hz := (HB.out.ext hY4).lt
  go_wp2_with fail
  refine (C33.out _ hE4).mono ?_
  rintro e w5 ⟨aM, cM, rfl, hMv, hX5⟩
  have hE5 := hE4.trans' hX5
  have hY5 := hY4.trans' hX5
  have HIH := Lib.hid (hIH.ext (hX4.trans' hX5))
  have HIL := Lib.hid (hIL.ext hX5)
  have HMv := Lib.hid hMv
  clear hIH hIL hMv C20b C43 C21 C33 hX2 hX3 hX4 hX5
  clear g0 g1 hz
  have g0 := (HB.out.ext hY5).cellv 0 (v := .slice a1 n1 c1) rfl
  have g1 := (HB.out.ext hY5).cellv 1 (v := .slice a2 n2 c2) rfl
  have hz := (HB.out.ext hY5).lt
  have hEE : (linePair a b != linePair a b) = false := by simp
  by_cases hp : linePair a b = 0
  case neg =>
    have hd : (linePair a b != 0) = true := by simp [hp]
    clear hp
    generalize linePair a b = E at *
    generalize leastV a b 1 = V at *
    generalize bothErr a b = G at *
    generalize (hsV a b).length = lh at *
    generalize (plV a b).length = lp at *
    generalize (ordV a b).length = lo at *
    go_wp2_with fail
    go_ret
    exact ⟨rfl, hE5⟩
  obtain ⟨v1, v2, -⟩ := linePair_ok hp
  have hbo : bothErr a b = 0 := by unfold bothErr; rw [if_neg (by simp [v1]), v2]
  have e1 : hsV a b = heightsL a b := by unfold hsV; rw [if_pos hp]
  have e2 : plV a b = placesL2 a b := by unfold plV; rw [if_pos hbo]
  have e3 : ordV a b = ordL a b := by unfold ordV; rw [if_pos hp]
  have e4 : leastV a b 1 = apartL a b 1 := by unfold leastV; rw [if_pos (leastErr_mk hp rfl)]
  have e5 : (heightsL a b).length = (placesL2 a b).length := heightsL_length a b
  rw [hp] at hEE
  rw [e1] at HIH
  rw [e2] at HIL
  rw [e3] at HMv
  rw [hp, hbo, e1, e2, e3, e4, e5]
  clear e1 e2 e3 e4 hbo
  have HP := Lib.hid hp
  have HV := Lib.hid (And.intro v1 v2)
  have hlen6 := places_len v1 v2
  have ho12 := (ord_ok hp).len
  obtain ⟨HL, hHL⟩ : ∃ HL, heightsL a b = HL := ⟨_, rfl⟩
  obtain ⟨PL, hPL⟩ : ∃ PL, placesL2 a b = PL := ⟨_, rfl⟩
  obtain ⟨OL, hOL⟩ : ∃ OL, ordL a b = OL := ⟨_, rfl⟩
  obtain ⟨V1, hV1⟩ : ∃ V1, apartL a b 1 = V1 := ⟨_, rfl⟩
  rw [hHL] at HIH e5
  rw [hPL] at HIL e5 hlen6 ⊢
  rw [hOL] at HMv ho12 ⊢
  rw [hV1]
  have HHL := Lib.hid hHL
  have HPL := Lib.hid hPL
  have HOL := Lib.hid hOL
  have HV1 := Lib.hid hV1
  clear hHL hPL hOL hV1
  have hla6 := (listErr_ok v1).1
  have hlb6 := (listErr_ok v2).1
  have hn1' := HN1.out
  have hn2' := HN2.out
  have hn16 : n1 ≤ 6 := by omega
  have hn26 : n2 ≤ 6 := by omega
  have hlp12 : PL.length ≤ 12 := by omega
  have He5 := Lib.hid e5
  clear hp v1 v2 hlen6 hla6 hlb6 hn1' hn2' e5
  by_cases h0 : n1 = 0
  · have hd : ((n1 : Int) == 0) = true := by simp [h0]
    clear h0
    generalize PL.length = lp at *
    generalize OL.length = lo at *
    go_wp2_with fail
    go_ret
    exact ⟨rfl, hE5⟩
  have hd1 : ((n1 : Int) == 0) = false := by simp [h0]
  by_cases h5 : 5 < n1
  · have hd := decide_eq_true (show (5 : Int) < (n1 : Int) by omega)
    generalize PL.length = lp at *
    generalize OL.length = lo at *
    go_wp2_with fail
    go_ret
    exact ⟨rfl, hE5⟩
  have hd2 := decide_eq_false (show ¬ (5 : Int) < (n1 : Int) by omega)
  by_cases h6 : 5 < n2
  · have hd := decide_eq_true (show (5 : Int) < (n2 : Int) by omega)
    generalize PL.length = lp at *
    generalize OL.length = lo at *
    go_wp2_with fail
    go_ret
    exact ⟨rfl, hE5⟩
  have hd3 := decide_eq_false (show ¬ (5 : Int) < (n2 : Int) by omega)
  have hb1 := right_some HP.out (by have := HN1.out; omega)
  have hna : 1 ≤ n1 ∧ n1 ≤ 5 := by omega
  have hnb : 1 ≤ n2 ∧ n2 ≤ 5 := by have := HN2.out; omega
  have hll : ((PL.length : Int) != (PL.length : Int)) = false := by simp
  clear hb1
  go_wp2_with fail
  clear hd1 hd2 hd3 hll hEE
  go_loopw [13] (fun v13 wr => ∃ k : Int, 1 ≤ k ∧ k ≤ 3 ∧ v13 = .int .i64 k ∧ Ext w5 wr) (fun i _ => (4 - intOf i).toNat)
  case atStart => exact ⟨1, by omega, by omega, rfl, Below.refl _ _⟩
  case round =>
    obtain ⟨k, hk1, hk3, rfl, hX⟩ := hrel
    obtain ⟨wo, rfl⟩ : ∃ wo : World, wo = wr := ⟨_, rfl⟩
    have hE := hE5.trans' hX
    have hY := hY5.trans' hX
    clear g0 g1 hz
    have g0 := (HB.out.ext hY).cellv 0 (v := .slice a1 n1 c1) rfl
    have g1 := (HB.out.ext hY).cellv 1 (v := .slice a2 n2 c2) rfl
    have hz := (HB.out.ext hY).lt
    by_cases hlt : k ≤ 2
    case neg =>
      have hd : decide (k ≤ 2) = false := decide_eq_false hlt
      go_wp2_with fail
      go_ret
      exact ⟨rfl, hE⟩
    have hk : k = 1 ∨ k = 2 := by omega
    have hd : decide (k ≤ 2) = true := decide_eq_true hlt
    have C56 := Lib.hid (f56_c a1 a2 n1 c1 n2 c2 a b k wo (HA.out.ext hE) HN1.out (by omega) (HC.out.ext hE) HN2.out (by omega) (fun i hi => place_bd HV.out.1 (by rw [HN1.out]; exact hi)) (fun i hi => place_bd HV.out.2 (by rw [HN2.out]; exact hi)) hk)
    have g2 : wo.cell? ⟨w.heap.size, 0, none⟩ = some (.slice a1 n1 c1) := g0
    go_wp2_with fail
    refine C56.out.mono ?_
    clear C56 g2
    rintro e w6 ⟨hR, hX6⟩
    have hE6 := hE.trans' hX6
    have hY6 := hY.trans' hX6
    clear g0 g1 hz
    have g0 := (HB.out.ext hY6).cellv 0 (v := .slice a1 n1 c1) rfl
    have g1 := (HB.out.ext hY6).cellv 1 (v := .slice a2 n2 c2) rfl
    have hz := (HB.out.ext hY6).lt
    rcases hR with ⟨hB, rfl⟩ | ⟨hB, aC, cC, rfl, hTab⟩
    · clear hB
      go_wp2_with fail
      go_roundw
      case rel => exact ⟨k + 1, by omega, by omega, rfl, hX.trans' hX6⟩
      case measure => simp [intOf]; omega
    have HBt := Lib.hid hB
    have HTab := Lib.hid hTab
    clear hB hTab hd
    go_wp2_with fail
    have C57 := Lib.hid (fun W (hW : Ext w6 W) => f57_c a1 n1 c1 a W (HA.out.ext (hE6.trans' hW)) HN1.out (by omega))
    have C57b := Lib.hid (fun W (hW : Ext w6 W) => f57_c a2 n2 c2 b W (HC.out.ext (hE6.trans' hW)) HN2.out (by omega))
    go_cut [16, 17] from 139 to 144 (fun v16 v17 wx => ∃ aA cA aB cB, v16 = .slice aA n1 cA ∧ v17 = .slice aB n2 cB ∧ Hid (Ints wx aA (masL a)) ∧ Hid (Ints wx aB (masL b)) ∧ Ext w6 wx)
    case first =>
      go_region_held3 (fun w' => w'.cell? ⟨w.heap.size, 0, none⟩ = some (.slice a1 n1 c1) ∧ w'.cell? ⟨w.heap.size, 1, none⟩ = some (.slice a2 n2 c2)) (first | assumption | exact ⟨by assumption, by assumption⟩ | go_keep)
        (first
          | (have hXq := hXa
             go_at_call 57
             refine (C57b.out _ hXa).mono ?_
             rintro e wm ⟨aB, cB, rfl, hBi, hXm⟩
             have hXb := hXa.trans' hXm
             have k0 := (HB.out.ext (hY6.trans' hXb)).cellv 0 (v := .slice a1 n1 c1) rfl
             have k1 := (HB.out.ext (hY6.trans' hXb)).cellv 1 (v := .slice a2 n2 c2) rfl)
          | (go_at_call 57
             refine (C57.out _ (ext_drew _)).mono ?_
             rintro e wl ⟨aA, cA, rfl, hA, hXl⟩
             have hXa := (ext_drew _).trans' hXl
             have k0 := (HB.out.ext (hY6.trans' hXa)).cellv 0 (v := .slice a1 n1 c1) rfl
             have k1 := (HB.out.ext (hY6.trans' hXa)).cellv 1 (v := .slice a2 n2 c2) rfl))
      have HAi := Lib.hid (hA.ext hXm)
      have HBi := Lib.hid hBi
      clear hA hBi
      go_wp2_with fail
      go_meet
      case rel => exact ⟨aA, cA, aB, cB, rfl, rfl, HAi, HBi, hXb⟩
    case rest =>
      obtain ⟨aA, cA, aB, cB, rfl, rfl, HIA, HIB, hX7⟩ := hcut
      obtain ⟨w7, rfl⟩ : ∃ w7 : World, w7 = wc := ⟨_, rfl⟩
      have hE7 := hE6.trans' hX7
      have hY7 := hY6.trans' hX7
      clear g0 g1 hz
      have g0 := (HB.out.ext hY7).cellv 0 (v := .slice a1 n1 c1) rfl
      have g1 := (HB.out.ext hY7).cellv 1 (v := .slice a2 n2 c2) rfl
      have hz := (HB.out.ext hY7).lt
      have hlA : (masL a).length = n1 := by rw [masL_length]; exact HN1.out
      have hlB : (masL b).length = n2 := by rw [masL_length]; exact HN2.out
      have a1' : 1 ≤ a.length := by rw [HN1.out]; exact hna.1
      have a5' : a.length ≤ 5 := by rw [HN1.out]; exact hna.2
      have b1' : 1 ≤ b.length := by rw [HN2.out]; exact hnb.1
      have b5' : b.length ≤ 5 := by rw [HN2.out]; exact hnb.2
      have hTo := bet_ok hk a1' a5' b1' b5' HBt.out
      have hfit := bet_fits HP.out hk a1' a5' b1' b5' HBt.out
      have Hfit := Lib.hid hfit
      have HLe := Lib.hid (fun v hv => least_line (v := v) HP.out hk a1' a5' b1' b5' HBt.out hv)
      have hle0 : leastErr a b k = 0 := leastErr_mk HP.out (by rcases hk with rfl | rfl <;> rfl)
      have hlv : leastV a b k = apartL a b k := by unfold leastV; rw [if_pos hle0]
      have HSp := Lib.hid (plan_sp HP.out k)
      have HPk := Lib.hid (plan_tok HP.out a1' a5' b1' b5')
      have HPm := Lib.hid (plan_mk HP.out)
      have HPr := Lib.hid (fun h => prices_line HP.out a1' a5' b1' b5' h)
      have HAb : Hid (massB (masL a) = true ∧ massB (masL b) = true ∧ sm (masL a) = sm (masL b)) := Lib.hid ⟨massB_mas HV.out.1 a1' a5', massB_mas HV.out.2 b1' b5', by rw [sm_mas, sm_mas, (linePair_ok HP.out).2.2]⟩
      rw [HN1.out, HN2.out] at hTo HSp HPk HPm HPr
      rw [HOL.out] at HSp HPk HPm
      have C58 := f58_c aA aB aC n1 n2 n1 cC cA cB (masL a) (masL b) (betT a b k) w7 HIA.out hlA (by omega) HIB.out hlB (by omega) (HTab.out.ext hX7) hTo.len (by omega) (fun j hj => by have h1 := hTo.cols j (by rw [← hTo.len]; exact hj); rw [row_at hj] at h1; omega)
      unfold RetLeast at C58
      rw [hfit] at C58
      have C58 := Lib.hid C58
      have C20k := fun W hW => C20.out k W hW
      rw [hlv, hle0] at C20k
      have C20k := Lib.hid C20k
      have HTo := Lib.hid hTo
      have HlA := Lib.hid hlA
      have HlB := Lib.hid hlB
      obtain ⟨V, hV⟩ : ∃ V, apartL a b k = V := ⟨_, rfl⟩
      rw [hV] at C20k HSp HLe
      have HVk := Lib.hid hV
      clear hlA hlB a1' a5' b1' b5' hTo hfit hle0 hlv hV
      go_wp2_with fail
      refine C58.out.mono ?_
      clear C58
      rintro e w8 ⟨v, rfl, hv, hX8⟩
      obtain rfl : v = V := HLe.out v hv
      clear hv HLe
      have hE8 := hE7.trans' hX8
      have hY8 := hY7.trans' hX8
      clear g0 g1 hz
      have g0 := (HB.out.ext hY8).cellv 0 (v := .slice a1 n1 c1) rfl
      have g1 := (HB.out.ext hY8).cellv 1 (v := .slice a2 n2 c2) rfl
      have hz := (HB.out.ext hY8).lt
      go_wp2_with fail
      refine (C20k.out _ hE8).mono ?_
      clear C20k
      rintro e w9 ⟨rfl, hX9⟩
      have hE9 := hE8.trans' hX9
      have hY9 := hY8.trans' hX9
      have hX69 := (hX7.trans' hX8).trans' hX9
      have hX59 := (hX.trans' hX6).trans' hX69
      have hX79 := hX8.trans' hX9
      clear hX8 hX9
      clear g0 g1 hz
      have g0 := (HB.out.ext hY9).cellv 0 (v := .slice a1 n1 c1) rfl
      have g1 := (HB.out.ext hY9).cellv 1 (v := .slice a2 n2 c2) rfl
      have hz := (HB.out.ext hY9).lt
      obtain ⟨i0, hi0⟩ := infoI
      have Hi := Lib.hid hi0
      clear hi0
      obtain ⟨i1, hi1⟩ := infoS
      have Hj := Lib.hid hi1
      clear hi1
      go_wp2_with (at_make; refine wpList_make_full _ rfl (.tmp 162) (.tmp 162) 66 rfl w9.heap.size 31 i1 (.slice none 0 0) 1 Try.underlying66 Hj.out.1 Hj.out.2.1 Hj.out.2.2.1 .i64 .i64 n1 n1 n1 rfl rfl rfl rfl (by rw [Hj.out.2.2.2]; omega) (by unfold maxLen; omega) (Nat.le_refl _) ?_; intro w10 hrow hgrow; have hX10 : Ext w9 w10 := (Below.refl _ w9).grown hgrow (Nat.le_refl _) (by simp); rw [show (Value.slice none 0 0).cells = #[.slice none 0 0] from rfl, made_one] at hrow; have Hrow := Lib.hid hrow; clear hrow hgrow)
      have hsz10 : w9.heap.size < w10.heap.size := by
        obtain ⟨g, cap, e, _, h⟩ := ownsRow_form Hrow.out hna.1
        injection e with e; injection e with e; injection e with e; omega
      have HT : Hid (OwnT 31 w10 w9.heap.size w10.heap.size (.slice (some ⟨w9.heap.size, 0, none⟩) n1 n1) (emptyTo n1 n2 0)) := Lib.hid (own_start Hrow.out hsz10)
      clear Hrow
      go_loopw [23] (fun i wr => ∃ q : Nat, q ≤ n1 ∧ i = .int .i64 q ∧ Ext w9 wr ∧ w9.heap.size < wr.heap.size ∧ Hid (OwnT 31 wr w9.heap.size wr.heap.size (.slice (some ⟨w9.heap.size, 0, none⟩) n1 n1) (emptyTo n1 n2 q))) (fun i _ => n1 - (intOf i).toNat)
      case atStart => exact ⟨0, Nat.zero_le _, rfl, hX10, hsz10, HT⟩
      case round =>
        obtain ⟨q, hq, rfl, hX11, hsz11, HT⟩ := hrel
        obtain ⟨w11, rfl⟩ : ∃ w11 : World, w11 = wr := ⟨_, rfl⟩
        by_cases hltq : q < n1
        case pos =>
          have HC1 : Hid (∃ u, w11.cell? ⟨w9.heap.size, q, none⟩ = some u) := Lib.hid (by obtain ⟨A, C, G, O, h⟩ := HT.out; exact ⟨_, row_cell h.own (rv_at (by rw [emptyTo_len]; exact hltq))⟩)
          have HF1 : Hid (w11.frozen? ⟨w9.heap.size, q, none⟩ = false) := Lib.hid (by obtain ⟨A, C, G, O, h⟩ := HT.out; have h2 := h.own; rw [emptyTo_len] at h2; exact World.ownsRow.frozenAt h2 q)
          go_wp2_with (at_make; refine wpList_make_full _ rfl (.tmp 173) (.tmp 173) 31 rfl w11.heap.size 3 i0 (.int .i64 0) 1 Try.underlying31 Hi.out.1 Hi.out.2.1 Hi.out.2.2.1 .i64 .i64 n2 n2 n2 rfl rfl rfl rfl (by rw [Hi.out.2.2.2]; omega) (by unfold maxLen; omega) (Nat.le_refl _) ?_; intro w12 hrow hgrow; have hX12 : Ext w11 w12 := (Below.refl _ w11).grown hgrow (Nat.le_refl _) (by simp); have hsz12 := hX12.size; rw [show (Value.int IntKind.i64 0).cells = #[.int .i64 0] from rfl, made_one, ← List.map_replicate] at hrow; have HN := Lib.hid (own_makeRow HT.out hX12 (i := q) (by rw [emptyTo_len]; exact hltq) hrow); obtain ⟨u0, hu0⟩ := HC1.out; have htop := (hX12.cell' hsz11).trans hu0; have hfz := (hX12.frozen (p := ⟨w9.heap.size, q, none⟩) hsz11).trans HF1.out; have hzz : w9.heap.size < w12.heap.size := (by omega); clear hu0; clear hrow hgrow)
          rw [emptyTo_set] at HN
          go_roundw
          case rel => exact ⟨q + 1, by omega, by go_num, (hX11.trans' hX12).setCell (Nat.le_refl _) _, by simp; omega, by simpa using HN⟩
          case measure => simp [intOf]; omega
        obtain rfl : n1 = q := by omega
        have HT0 : Hid (OwnT 31 w11 w9.heap.size w11.heap.size (.slice (some ⟨w9.heap.size, 0, none⟩) n1 n1) (mk n1 n2 (planO a b 0))) := Lib.hid (by rw [mk_zero]; exact HT.out)
        clear HT
        go_wp2_with fail
        clear C57 C57b
        go_loopw [24] (fun i wr => ∃ s : Nat, s ≤ OL.length ∧ i = .int .i64 s ∧ Ext w9 wr ∧ w9.heap.size < wr.heap.size ∧ Hid (OwnT 31 wr w9.heap.size wr.heap.size (.slice (some ⟨w9.heap.size, 0, none⟩) n1 n1) (mk n1 n2 (planO a b s)))) (fun i _ => OL.length - (intOf i).toNat)
        case atStart => exact ⟨0, Nat.zero_le _, rfl, hX11, hsz11, HT0⟩
        case round =>
          obtain ⟨s, hs, rfl, hX12, hsz12, HT⟩ := hrel
          obtain ⟨w12, rfl⟩ : ∃ w12 : World, w12 = wr := ⟨_, rfl⟩
          have hE12 := hE9.trans' hX12
          have hY12 := hY9.trans' hX12
          clear g0 g1 hz
          have g0 := (HB.out.ext hY12).cellv 0 (v := .slice a1 n1 c1) rfl
          have g1 := (HB.out.ext hY12).cellv 1 (v := .slice a2 n2 c2) rfl
          have hz := (HB.out.ext hY12).lt
          by_cases hlts : s < OL.length
          case pos =>
            obtain ⟨bM, oM, rfl, hbM, mc0, mc1, mc2⟩ := HMv.out s hlts
            rw [← mvK_at hlts] at mc0 mc1 mc2
            have hX512 := hX59.trans' hX12
            have md0 := (hX512.cell' hbM).trans mc0
            have md1 := (hX512.cell' hbM).trans mc1
            have md2 := (hX512.cell' hbM).trans mc2
            have hbM2 := Nat.lt_of_lt_of_le hbM hX512.size
            have O := ord_ok HP.out
            have hso : s < (ordL a b).length := by rw [HOL.out]; exact hlts
            have o1 := O.row s hso
            have o2 := O.col s hso
            have o3 := O.mas s hso
            have o4 := planO_bd HP.out s (by omega) (rowM a b s) (colM a b s)
            have o5 : setT (mk n1 n2 (planO a b s)) (rowM a b s) (colM a b s) (planO a b s (rowM a b s) (colM a b s) + masM a b s) = mk n1 n2 (planO a b (s + 1)) := mk_move (by have := o1.1; have := HN1.out; omega) (by have := o2.1; have := HN2.out; omega)
            have o6 : masM a b s = (mvK OL s).m := by unfold masM; rw [HOL.out]
            rw [HOL.out] at o1 o2
            rw [← o6] at md2
            have o7 : tg (mk n1 n2 (planO a b s)) (rowM a b s) (colM a b s) = planO a b s (rowM a b s) (colM a b s) := tg_mk _ (by have := o1.1; have := HN1.out; omega) (by have := o2.1; have := HN2.out; omega)
            have O5 := Lib.hid o5
            have O7 := Lib.hid o7
            have C59 := Lib.hid (fun x' : GW w12 => f59_at a1 n1 c1 a (mvK OL s).fr (rowM a b s) x'.world (HA.out.ext (hE12.trans' x'.ext)) HN1.out (by omega) (by have := o1.1; have := HN1.out; omega) o1.2.1 o1.2.2)
            have C59b := Lib.hid (fun x' : GW w12 => f59_at a2 n2 c2 b (mvK OL s).to (colM a b s) x'.world (HC.out.ext (hE12.trans' x'.ext)) HN2.out (by omega) (by have := o2.1; have := HN2.out; omega) o2.2.1 o2.2.2)
            have hr : rowM a b s < n1 := by have := o1.1; have := HN1.out; omega
            have hc : colM a b s < n2 := by have := o2.1; have := HN2.out; omega
            have o8 : s ≤ 12 := by omega
            clear O hso o1 o2 o5 o6 o7 mc0 mc1 mc2
            generalize (mvK OL s).fr = fr at *
            generalize (mvK OL s).to = tt at *
            generalize masM a b s = ms at *
            generalize rowM a b s = r at *
            generalize colM a b s = c at *
            generalize planO a b s r c = pv at *
            go_wp2_with fail
            refine wp_region_ext (by kernel_rfl) (by kernel_rfl) ?_
            repeat (go_big_quiet_step (fail))
            go_big_quiet_step ((go_at_call 59; exact quiet_same (C59.out _)))
            repeat (go_big_quiet_step (fail))
            go_big_quiet_step ((go_at_call 59; exact quiet_same (C59b.out _)))
            repeat (go_big_quiet_step (fail))
            refine wpQuiet_nil ?_
            intro w13 hX13
            have hX13' := hX12.trans' hX13
            have hY13 := hY12.trans' hX13
            have me2 := (hX13.cell' hbM2).trans md2
            have hbM3 := Nat.lt_of_lt_of_le hbM2 hX13.size
            have hsz13 := hX13.size
            obtain ⟨AA, CC, GG, OO, hOw⟩ := (HT.out.ext hX13)
            obtain ⟨p1, p2, p3, p4⟩ := hOw.spot (mk_len _ _ _) rfl hr (mk_cols _ hr) (by omega)
            obtain ⟨p5, p6⟩ := p4 c hc
            rw [O7.out] at p5
            have hst := hOw.store (i := r) (j := c) (by rw [mk_len]; exact hr) (by rw [mk_cols _ hr]; exact hc) (pv + ms)
            rw [O5.out] at hst
            have HSt := Lib.hid hst
            have hX14 : Ext w9 _ := hX13'.setCell (p := ⟨GG r, OO r + c, none⟩) p2 (.int .i64 (pv + ms))
            have p7 : GG r < w13.heap.size := by omega
            clear p4 hOw hst C59 C59b O5 O7 md0 md1 md2
            generalize GG r = gr at *
            generalize OO r = or at *
            generalize CC r = cr at *
            go_wp2_with fail
            go_region
            obtain ⟨ws, hws⟩ : ∃ ws : World, w13.setCell ⟨gr, or + c, none⟩ (.int .i64 (pv + ms)) = ws := ⟨_, rfl⟩
            rw [hws] at HSt hX14 ⊢
            have hs6a : ws.heap.size = w13.heap.size := by rw [← hws]; simp
            have hEd : Ext ws ws.drew := ext_drew ws
            have hX15 : Ext w9 ws.drew := Ext.trans' hX14 hEd
            have HS5 := Lib.hid (OwnL.ext HSt.out hEd)
            have hs6 : w12.heap.size ≤ ws.drew.heap.size := by
              have h1 : ws.heap.size ≤ ws.drew.heap.size := hEd.size
              omega
            clear HSt hX14 hws hs6a hEd
            generalize ws.drew = w15 at *
            go_wp2_with fail
            go_roundw
            case rel => exact ⟨s + 1, by omega, by go_num, hX15, by omega, Lib.hid (OwnT.up ⟨AA, CC, GG, OO, HS5.out⟩ hs6 (Nat.le_refl _))⟩
            case measure => simp [intOf]; omega
          obtain rfl : s = OL.length := by omega
          obtain ⟨aT, cT, heT, hPT⟩ := HT.out.table
          rw [mk_len] at heT
          simp only [Value.slice.injEq, true_and] at heT
          obtain ⟨rfl, -⟩ := heT
          have HPT := Lib.hid hPT
          have hX712 := hX79.trans' hX12
          have C60 := Lib.hid (f60_ok aC (some ⟨w9.heap.size, 0, none⟩) n1 n2 cC n1 (betT a b k) (mk n1 n2 (planO a b OL.length)) w12 (HTab.out.ext (hX7.trans' hX712)) HPT.out HTo.out HPk.out)
          have C61 := Lib.hid (fun W (hW : Ext w12 W) => f61_ok aA aB (some ⟨w9.heap.size, 0, none⟩) n1 n2 cA cB n1 (masL a) (masL b) (mk n1 n2 (planO a b OL.length)) W (HIA.out.ext (hX712.trans' hW)) HlA.out (HIB.out.ext (hX712.trans' hW)) HlB.out (HPT.out.ext hW) HAb.out.1 HAb.out.2.1 HAb.out.2.2 HPk.out HPm.out)
          rw [HSp.out] at C60
          clear hPT HT HT0 HPk HPm HSp HMv
          have q0 : (v != v) = false := by simp
          go_wp2_with fail
          refine C60.out.mono ?_
          clear C60
          rintro e w13 ⟨rfl, hX13⟩
          have hE13 := hE12.trans' hX13
          have hY13 := hY12.trans' hX13
          clear g0 g1 hz
          have g0 := (HB.out.ext hY13).cellv 0 (v := .slice a1 n1 c1) rfl
          have g1 := (HB.out.ext hY13).cellv 1 (v := .slice a2 n2 c2) rfl
          have hz := (HB.out.ext hY13).lt
          go_wp2_with fail
          refine (C61.out _ hX13).mono ?_
          clear C61
          rintro e w14 ⟨rfl, hX14⟩
          have hE14 := hE13.trans' hX14
          have hY14 := hY13.trans' hX14
          have hX514 := ((hX59.trans' hX12).trans' hX13).trans' hX14
          have hX714 := (hX712.trans' hX13).trans' hX14
          clear g0 g1 hz
          have g0 := (HB.out.ext hY14).cellv 0 (v := .slice a1 n1 c1) rfl
          have g1 := (HB.out.ext hY14).cellv 1 (v := .slice a2 n2 c2) rfl
          have hz := (HB.out.ext hY14).lt
          by_cases hk2 : k = 2
          · have d2 : (k == 2) = true := by simp [hk2]
            go_wp2_with fail
            go_roundw
            case rel => exact ⟨k + 1, by omega, by omega, by rw [hk2]; rfl, hX514⟩
            case measure => simp [intOf]; omega
          have d2 : (k == 2) = false := by simp [hk2]
          obtain rfl : k = 1 := by omega
          go_wp2_with fail
          have hzp := hX14.size
          have HPB0 := Lib.hid (PBox.new w14 77)
          have hXp := ext_alloc w14 (.cells #[.slice none 0 0, .slice none 0 0] 77)
          have hYp := hY14.trans' hXp
          go_upto_region 41 with fail
          generalize (w14.alloc (.cells #[.slice none 0 0, .slice none 0 0] 77)) = w16 at *
          clear g0 g1 hz
          have g0 := (HB.out.ext hYp).cellv 0 (v := .slice a1 n1 c1) rfl
          have g1 := (HB.out.ext hYp).cellv 1 (v := .slice a2 n2 c2) rfl
          have hz := (HB.out.ext hYp).lt
          go_wp2_with fail
          go_loopw [30] (fun i wr => ∃ (q : Nat) (v0 : Value), q ≤ n1 ∧ i = .int .i64 q ∧ Ext w14 wr ∧ Hid (PBox 77 wr w14.heap.size w14.heap.size v0 (.slice none 0 0) (upTo a b q) [])) (fun i _ => n1 - (intOf i).toNat)
          case atStart => exact ⟨0, _, Nat.zero_le _, rfl, hXp, HPB0⟩
          case round =>
            obtain ⟨q, v0, hq, rfl, hX17, HPB⟩ := hrel
            obtain ⟨w17, rfl⟩ : ∃ w17 : World, w17 = wr := ⟨_, rfl⟩
            have hE17 := hE14.trans' hX17
            have hY17 := hY14.trans' hX17
            clear g0 g1 hz
            have g0 := (HB.out.ext hY17).cellv 0 (v := .slice a1 n1 c1) rfl
            have g1 := (HB.out.ext hY17).cellv 1 (v := .slice a2 n2 c2) rfl
            have hz := (HB.out.ext hY17).lt
            have hX517 := hX514.trans' hX17
            by_cases hltq : q < n1
            case pos =>
              have hr0 := HPB.out.r0
              rw [upTo_length] at hr0
              obtain ⟨av, cv, rfl⟩ := slice_form hr0
              have HR0 := Lib.hid hr0
              obtain ⟨b1, o1, rfl, hb1, hc1, -⟩ := HA.out q (by rw [HN1.out]; exact hltq)
              rw [← atK_at (by rw [HN1.out]; exact hltq)] at hc1
              have kc1 := (hE17.cell' hb1).trans hc1
              have kb1 := Nat.lt_of_lt_of_le hb1 hE17.size
              have hm := mem_left HV.out.1 HV.out.2 (i := q) (by rw [HN1.out]; exact hltq)
              rw [HPL.out] at hm
              obtain ⟨m1, m2, m3⟩ := ixL_ok hm
              obtain ⟨bH, oH, rfl, hbH, hcH⟩ := HIH.out (ixL PL (atK a q).p) (by rw [He5.out]; exact m1)
              obtain ⟨bH', oH', eH, -, hc0⟩ := HIH.out 0 (by rw [He5.out]; omega)
              simp only [Option.some.injEq, Addr.mk.injEq, and_true] at eH
              obtain ⟨rfl, rfl⟩ := eH
              rw [← gi_at] at hcH hc0
              simp only [Nat.add_zero] at hc0
              have kcH := (hX517.cell' hbH).trans hcH
              have kc0 := (hX517.cell' hbH).trans hc0
              have kbH := Nat.lt_of_lt_of_le hbH hX517.size
              have hbd1 : -2000 ≤ gi HL (ixL PL (atK a q).p) ∧ gi HL (ixL PL (atK a q).p) ≤ 2000 := by
                rw [← HHL.out, heightsL_gi (by rw [HPL.out]; exact m1)]; exact heights_bd (by rw [HPL.out]; exact m1)
              have hbd0 : -2000 ≤ gi HL 0 ∧ gi HL 0 ≤ 2000 := by
                rw [← HHL.out, heightsL_gi (by rw [HPL.out]; omega)]; exact heights_bd (by rw [HPL.out]; omega)
              have Hs : Hid (upTo a b (q + 1) = upTo a b q ++ [-gi HL (ixL PL (atK a q).p) + gi HL 0]) := Lib.hid (by rw [upTo_succ]; unfold hAt; rw [HHL.out, HPL.out])
              have Hm23 := Lib.hid (And.intro m2 m3)
              have hszq := hX17.size
              have hpz := HPB.out.blk.lt
              have hpc := HPB.out.blk.cellv 0 (v := .slice av q cv) rfl
              clear hm m2 m3 hc1 hcH hc0 hr0
              generalize (atK a q).p = p at *
              generalize ixL PL p = ix at *
              generalize gi HL ix = h1 at *
              generalize gi HL 0 = h0' at *
              have HN16 := Lib.hid (And.intro hn16 hlp12)
              go_wp2_with fail
              refine wp_onlyN (reg44 _ _ _ _ _ _ _ _ _ _ _ _ _ _ _ _ _ _ _ _ _ _ _ _ _ _ _ _ _ _ _ _ _ _ _ _ _ _ _ _ _ _ _ _ _ _ _ _ _ _ _ _ _ _ _ _ _ _ _ _ _ _ _ _ _ _ _ _ _ _ _ _ _ _ _ _ _ _ _ _ _ _ _ _ _ _ _ _ _ _ _ _ _ _ _ _ _ _ _ _ _ _ _ _ _ _ _ _ _ _ _ _ _ _ _ _ _ _ _ _ _ _ _ _ _ _ _ _ _ _ _ _ _ _ _ _ _ _ _ _ _ _ _ _ _ _ _ _ _ _ _ _ _ _ _ _ _ _ _ _ _ _ _ _ _ _ _ _ _ _ _ _ _ _ _ _ _ _ _ _ _ _ _ _ _ _ _ _ _ _ _ _ _ _ _ _ _ _ _ _ _ _ _ _ _ _ _ _ _ _ _ _ _ _ _ _ _ _ _ _ _ _ _ _ _ _ _ _ _ _ _ _ _ _ _ _ _ _ _ _ _ _ _ _ _ _ _ _ _ _ _ _ _ _ _ _ _ _ _ _ _ _ _ _ _ _ _ _ _ _ _ _ _ _ _ _ _ _ _ _ _ _ _ _ _ _ _ _ _ _ _ _ _ _ _ _ _ _ _ _ _ _ _ _ _ _ _ _ _ _ _ _ _ _ _ _ _ _ w17 w14 w.heap.size w14.heap.size bH oH PL.length cH cL q b1 o1 n1 c1 cv ix aL av (.slice none 0 0) (upTo a b q) [] PL p h1 h0' hX17 (HB.out.ext hY14).lt (Nat.lt_of_lt_of_le hb1 hE14.size) (Nat.lt_of_lt_of_le hbH hX514.size) (Nat.le_refl _) hszq HPB (Lib.hid (upTo_length a b q)) g0 hltq hn16 kc1 kcH kc0 (Lib.hid (fun W hW => HIL.out.ext (hX517.trans' hW))) (Lib.hid rfl) hlp12 m1 Hm23 hbd1 hbd0 ?_)
              intro x260 x261 x262 x263 x264 x265 x266 x267 x268 x269 x270 x271 x272 x273 x274 x275 x276 x277 x278 x279 x280 v' w18 hX18 HPB2
              rw [← Hs.out] at HPB2
              simp only [Exit.inBlock, Exit.then]
              clear hpz hpc kc1 kb1 kcH kc0 kbH HR0 hX17 HPB
              go_wp2_with fail
              go_roundw
              case rel => exact ⟨q + 1, v', by omega, by go_num, hX18, HPB2⟩
              case measure => simp [intOf]; omega
            obtain rfl : n1 = q := by omega
            go_wp2_with fail
            go_loopw [31] (fun i wr => ∃ (s : Nat) (v1 : Value), s ≤ n2 ∧ i = .int .i64 s ∧ Ext w14 wr ∧ Hid (PBox 77 wr w14.heap.size w14.heap.size v0 v1 (upTo a b n1) (vpTo a b s))) (fun i _ => n2 - (intOf i).toNat)
            case atStart => exact ⟨0, _, Nat.zero_le _, rfl, hX17, HPB⟩
            case round =>
              obtain ⟨s, v1, hs, rfl, hX18, HPB2⟩ := hrel
              obtain ⟨w18, rfl⟩ : ∃ w18 : World, w18 = wr := ⟨_, rfl⟩
              have hE18 := hE14.trans' hX18
              have hY18 := hY14.trans' hX18
              clear g0 g1 hz
              have g0 := (HB.out.ext hY18).cellv 0 (v := .slice a1 n1 c1) rfl
              have g1 := (HB.out.ext hY18).cellv 1 (v := .slice a2 n2 c2) rfl
              have hz := (HB.out.ext hY18).lt
              have hX518 := hX514.trans' hX18
              by_cases hlts : s < n2
              case pos =>
                have hr1 := HPB2.out.r1
                rw [vpTo_length] at hr1
                obtain ⟨av, cv, rfl⟩ := slice_form hr1
                obtain ⟨b1, o1, rfl, hb1, hc1, -⟩ := HC.out s (by rw [HN2.out]; exact hlts)
                rw [← atK_at (by rw [HN2.out]; exact hlts)] at hc1
                have kc1 := (hE18.cell' hb1).trans hc1
                have hm := mem_right HV.out.1 HV.out.2 (j := s) (by rw [HN2.out]; exact hlts)
                rw [HPL.out] at hm
                obtain ⟨m1, m2, m3⟩ := ixL_ok hm
                have Hm23 := Lib.hid (And.intro m2 m3)
                obtain ⟨bH, oH, rfl, hbH, hcH⟩ := HIH.out (ixL PL (atK b s).p) (by rw [He5.out]; exact m1)
                obtain ⟨bH', oH', eH, -, hc0⟩ := HIH.out 0 (by rw [He5.out]; omega)
                simp only [Option.some.injEq, Addr.mk.injEq, and_true] at eH
                obtain ⟨rfl, rfl⟩ := eH
                rw [← gi_at] at hcH hc0
                simp only [Nat.add_zero] at hc0
                have kcH := (hX518.cell' hbH).trans hcH
                have kc0 := (hX518.cell' hbH).trans hc0
                have hbd1 : -2000 ≤ gi HL (ixL PL (atK b s).p) ∧ gi HL (ixL PL (atK b s).p) ≤ 2000 := by
                  rw [← HHL.out, heightsL_gi (by rw [HPL.out]; exact m1)]; exact heights_bd (by rw [HPL.out]; exact m1)
                have hbd0 : -2000 ≤ gi HL 0 ∧ gi HL 0 ≤ 2000 := by
                  rw [← HHL.out, heightsL_gi (by rw [HPL.out]; omega)]; exact heights_bd (by rw [HPL.out]; omega)
                have Hs : Hid (vpTo a b (s + 1) = vpTo a b s ++ [gi HL (ixL PL (atK b s).p) - gi HL 0]) := Lib.hid (by rw [vpTo_succ]; unfold hAt; rw [HHL.out, HPL.out])
                have hszs := hX18.size
                clear hm m2 m3 hc1 hcH hc0 hr1
                generalize (atK b s).p = p at *
                generalize ixL PL p = ix at *
                generalize gi HL ix = h1 at *
                generalize gi HL 0 = h0' at *
                go_wp2_with fail
                refine wp_onlyN (reg48 _ _ _ _ _ _ _ _ _ _ _ _ _ _ _ _ _ _ _ _ _ _ _ _ _ _ _ _ _ _ _ _ _ _ _ _ _ _ _ _ _ _ _ _ _ _ _ _ _ _ _ _ _ _ _ _ _ _ _ _ _ _ _ _ _ _ _ _ _ _ _ _ _ _ _ _ _ _ _ _ _ _ _ _ _ _ _ _ _ _ _ _ _ _ _ _ _ _ _ _ _ _ _ _ _ _ _ _ _ _ _ _ _ _ _ _ _ _ _ _ _ _ _ _ _ _ _ _ _ _ _ _ _ _ _ _ _ _ _ _ _ _ _ _ _ _ _ _ _ _ _ _ _ _ _ _ _ _ _ _ _ _ _ _ _ _ _ _ _ _ _ _ _ _ _ _ _ _ _ _ _ _ _ _ _ _ _ _ _ _ _ _ _ _ _ _ _ _ _ _ _ _ _ _ _ _ _ _ _ _ _ _ _ _ _ _ _ _ _ _ _ _ _ _ _ _ _ _ _ _ _ _ _ _ _ _ _ _ _ _ _ _ _ _ _ _ _ _ _ _ _ _ _ _ _ _ _ _ _ _ _ _ _ _ _ _ _ _ _ _ _ _ _ _ _ _ _ _ _ _ _ _ _ _ _ _ _ _ _ _ _ _ _ _ _ _ _ _ _ _ _ _ _ _ _ _ _ _ _ _ _ _ _ _ _ _ _ _ w18 w14 w.heap.size w14.heap.size bH oH PL.length cH cL s b1 o1 n2 c2 cv ix aL av v0 (upTo a b n1) (vpTo a b s) PL p h1 h0' hX18 (HB.out.ext hY14).lt (Nat.lt_of_lt_of_le hb1 hE14.size) (Nat.lt_of_lt_of_le hbH hX514.size) (Nat.le_refl _) hszs HPB2 (Lib.hid (vpTo_length a b s)) g1 hlts hn26 kc1 kcH kc0 (Lib.hid (fun W hW => HIL.out.ext (hX518.trans' hW))) (Lib.hid rfl) hlp12 m1 Hm23 hbd1 hbd0 ?_)
                intro x288 x289 x290 x291 x292 x293 x294 x295 x296 x297 x298 x299 x300 x301 x302 x303 x304 x305 x306 x307 v' w19 hX19 HPB3
                rw [← Hs.out] at HPB3
                simp only [Exit.inBlock, Exit.then]
                clear kc1 kcH kc0 hX18 HPB2
                go_wp2_with fail
                go_roundw
                case rel => exact ⟨s + 1, v', by omega, by go_num, hX19, HPB3⟩
                case measure => simp [intOf]; omega
              obtain rfl : n2 = s := by omega
              obtain ⟨uU, cU, rfl, hIU⟩ := ints_of_row HPB2.out.r0
              obtain ⟨uV, cV, rfl, hIV⟩ := ints_of_row HPB2.out.r1
              have p0 := HPB2.out.blk.cellv 0 (v := .slice uU (upTo a b n1).length cU) rfl
              have p1 := HPB2.out.blk.cellv 1 (v := .slice uV (vpTo a b n2).length cV) rfl
              have p2 := HPB2.out.blk.lt
              have hX718 := hX714.trans' hX18
              have C63 := f63_c aA aB aC uU uV n1 cC cA cB n1 cU n2 cV (masL a) (masL b) (betT a b 1) (upTo a b n1) (vpTo a b n2) w18 (HIA.out.ext hX718) (HIB.out.ext hX718) (HTab.out.ext (hX7.trans' hX718)) HTo.out.len Hfit.out hIU (upTo_length a b n1) (by omega) hIV (vpTo_length a b n2) (by omega)
              rw [(HPr.out HBt.out).1, (HPr.out HBt.out).2, HVk.out, HlA.out, HlB.out] at C63
              have C63 := Lib.hid C63
              rw [upTo_length] at p0
              rw [vpTo_length] at p1
              have q1 : (v != v) = false := by simp
              obtain rfl : v = V1 := HVk.out.symm.trans HV1.out
              clear hIU hIV
              go_wp2_with fail
              refine C63.out.mono ?_
              clear C63 p0 p1 p2
              rintro e w19 ⟨rfl, hX19⟩
              have hX519 := hX518.trans' hX19
              go_wp2_with fail
              go_roundw
              case rel => exact ⟨2, by omega, by omega, rfl, hX519⟩
              case measure => simp [intOf]
end Go.Proofs.Ytfhgnmijigdlmaa.Tr
