/- TopMeans: the law's walk. -/
import Derived.OwnWalk
import Derived.Test.YtgnjaapjaglleaaT21
import Derived.Test.YtgnjaapjaglleaaT17
import Derived.Test.YtgnjaapjaglleaaT24
import Derived.Test.YtgnjaapjaglleaaLMed
import Derived.Test.YtgnjaapjaglleaaLRea
namespace Go.Proofs.Ytgnjaapjaglleaa
open Go.RowKit
attribute [local go_sem] GW.cell

theorem top_val {l : List Atom} (h : valLoad l = 0) : valAtoms l = 0 := by
  obtain ⟨l1, l2⟩ := listErr_ok h
  have : isListB 60000 1000 l = true := isListB_of (fun y hy => by have := isListB_mem l2 hy; omega) (isListB_pw l2)
  unfold valAtoms listErr; rw [if_neg (by omega), this]; rfl
theorem top_scale {l : List Atom} (h : valLoad l = 0) {A : Int} (hA : 1 ≤ A ∧ A ≤ 60) : scaleErr l A = 0 := by
  obtain ⟨l1, l2⟩ := listErr_ok h
  have hv := top_val h
  have hall : l.all (scOk A) = true := by
    rw [List.all_eq_true]
    intro y hy
    have h1 := isListB_mem l2 hy
    have h2 := mulbd (a := y.p) (b := A) (A := 1000) (B := 60) (by omega) (by omega)
    exact withinB_iff.2 (by omega)
  have hw : withinB A 1 60 = true := withinB_iff.2 (by omega)
  unfold scaleErr; rw [hv, hw, hall]; simp
theorem top_pair {l m : List Atom} (h1 : valLoad l = 0) (h2 : valLoad m = 0) (h3 : totalL l = totalL m) : linePair l m = 0 ∧ pairErr l m = 0 := by
  constructor
  · unfold linePair bothErr; rw [h1, h2, h3]; simp
  · unfold pairErr; rw [top_val h1, top_val h2, h3]; simp
theorem top_kind {l m : List Atom} (h1 : valLoad l = 0) (h2 : valLoad m = 0) (h3 : totalL l = totalL m) {k : Int} (hk : kindB k = true) : apartErr l m k = 0 ∧ leastErr l m k = 0 ∧ leastV l m k = apartV l m k := by
  obtain ⟨p1, p2⟩ := top_pair h1 h2 h3
  have e1 := apartErr_mk (k := k) p2 hk
  have e2 := leastErr_mk (k := k) p1 hk
  refine ⟨e1, e2, ?_⟩
  unfold leastV apartV
  rw [if_pos e1, if_pos e2]
theorem top_area {l m : List Atom} (h1 : valLoad l = 0) (h2 : valLoad m = 0) (h3 : totalL l = totalL m) : areaV l m = apartV l m 1 := by
  obtain ⟨p1, p2⟩ := top_pair h1 h2 h3
  have e1 := apartErr_mk (k := 1) p2 rfl
  unfold areaV apartV
  rw [if_pos p1, if_pos e1]
  exact area_said p1
theorem top_bet {l m : List Atom} {x y : Int} (h1 : valLoad l = 0) (h2 : valLoad m = 0) (h : betErr l m x y = 0) :
    (1 ≤ y ∧ y ≤ 60 ∧ 0 ≤ x ∧ x ≤ y) ∧ scaleErr l y = 0 ∧ scaleErr m y = 0 ∧ apartErr (scaleL l y) (betL l m x y) 1 = 0 ∧ apartErr (betL l m x y) (scaleL m y) 1 = 0 ∧
    apartV (scaleL l y) (betL l m x y) 1 = x * apartV l m 1 ∧ apartV (scaleL l y) (betL l m x y) 1 + apartV (betL l m x y) (scaleL m y) 1 = y * apartV l m 1 := by
  have hs := shareB_ok (betErr_ok h).2.1
  have s1 := top_scale h1 (A := y) (by omega)
  have s2 := top_scale h2 (A := y) (by omega)
  have hb := bet_said h s1 s2 (k := 1) rfl
  obtain ⟨-, b2, b3, b4, b5⟩ := hb
  have b4' : apartV (scaleL l y) (betL l m x y) 1 = x * apartV l m 1 := by simpa using b4
  have b5' : apartV (betL l m x y) (scaleL m y) 1 = (y - x) * apartV l m 1 := by simpa using b5
  refine ⟨hs, s1, s2, b2, b3, b4', ?_⟩
  rw [b4', b5', ← Int.add_mul]
  congr 1; omega
theorem top_weighed {ll : List (List Atom)} {ws : List Int} (h : loadsErr ll = 0) : weighedErr ll ws = 0 ∨ weighedErr ll ws = 1 := by
  unfold weighedErr weightsErr
  rw [if_neg (by omega)]
  by_cases h1 : ws.length ≠ ll.length
  · rw [if_pos h1]; exact .inr rfl
  · rw [if_neg h1]
    cases ws.all (fun n => withinB n 1 9)
    · exact .inr rfl
    · exact .inl rfl
theorem top_own {ll : List (List Atom)} (h : loadsErr ll = 0) : sumErr ll (onesL ll.length) (rankV ll ((ll.length - 1) / 2)) 1 = 0 ∧ (rankV ll ((ll.length - 1) / 2)).length ≤ 40 ∧
    ∀ m, sumErr ll (onesL ll.length) m 1 = 0 → sumV ll (onesL ll.length) (rankV ll ((ll.length - 1) / 2)) 1 ≤ sumV ll (onesL ll.length) m 1 := by
  have hok := loadsErr_ok h
  have h0 := hok.pos
  have hr : rankV ll ((ll.length - 1) / 2) = rankL ll ((ll.length - 1) / 2) := by unfold rankV; rw [if_pos h]
  have ha : medErr ll (rankL ll ((ll.length - 1) / 2)) = 0 := by
    unfold medErr
    rw [h, rank_valid hok (by omega), rank_total hok]; simp
  rw [hr]
  refine ⟨med_sumErr ha, rank_len _ hok (by omega), fun m hm => ?_⟩
  obtain ⟨g1, g2, g3, g4, g5⟩ := sumErr_ok hm
  have hm2 : medErr ll m = 0 := by unfold medErr; rw [g1, g2, g4]; simp
  exact (medians_said hm2).2.2.1
theorem top_18 : apartV [⟨0, 2⟩] [⟨3, 2⟩] 2 = 18 ∧ apartErr [⟨0, 2⟩] [⟨3, 2⟩] 2 = 0 := by decide
set_option maxRecDepth 20000 in
set_option maxHeartbeats 40000000 in
theorem lawTop (w : World) (a : Option Addr) (n c : Nat) (l : List (List Atom)) (hl : Loads w a l) (hn : l.length = n) (hlx : n ≤ 9223372036854775807) (a2 : Option Addr) (n2 c2 : Nat) (ws : List Int) (hw : Ints w a2 ws) (hn2 : ws.length = n2) (b : Option Addr) (k d : Nat) (m : List Atom) (hm : Atoms w b m) (hk : m.length = k) (x y : Int) :
    Calls Try.prog 16 #[.agg #[.slice a n c, .slice a2 n2 c2], .slice b k d, .agg #[.int .i64 x, .int .i64 y]] w fun e w' => e = .returned (.bool true) ∧ Ext w w' := by
  subst hn hn2 hk
  obtain ⟨i0, hi0⟩ := info_parts info3
  have Hi := Lib.hid hi0
  clear hi0
  have hA0 : Atoms (((w.alloc (Obj.cells #[.slice a l.length c, .slice a2 ws.length c2] 32)).alloc (Obj.cells #[.int .i64 x, .int .i64 y] 53)).alloc (Obj.cells #[.int .i64 0, .int .i64 2] 66)) (some ⟨w.heap.size + 2, 0, none⟩) [⟨0, 2⟩] := by have := atoms_new1 ((w.alloc (Obj.cells #[.slice a l.length c, .slice a2 ws.length c2] 32)).alloc (Obj.cells #[.int .i64 x, .int .i64 y] 53)) ⟨0, 2⟩ 66; simpa using this
  have hB0 : Atoms ((((w.alloc (Obj.cells #[.slice a l.length c, .slice a2 ws.length c2] 32)).alloc (Obj.cells #[.int .i64 x, .int .i64 y] 53)).alloc (Obj.cells #[.int .i64 0, .int .i64 2] 66)).alloc (Obj.cells #[.int .i64 3, .int .i64 2] 66)) (some ⟨w.heap.size + 3, 0, none⟩) [⟨3, 2⟩] := by have := atoms_new1 (((w.alloc (Obj.cells #[.slice a l.length c, .slice a2 ws.length c2] 32)).alloc (Obj.cells #[.int .i64 x, .int .i64 y] 53)).alloc (Obj.cells #[.int .i64 0, .int .i64 2] 66)) ⟨3, 2⟩ 66; simpa using this
  have C0 := f30_c (some ⟨w.heap.size + 2, 0, none⟩) (some ⟨w.heap.size + 3, 0, none⟩) 1 1 1 1 [⟨0, 2⟩] [⟨3, 2⟩] 2 ((((w.alloc (Obj.cells #[.slice a l.length c, .slice a2 ws.length c2] 32)).alloc (Obj.cells #[.int .i64 x, .int .i64 y] 53)).alloc (Obj.cells #[.int .i64 0, .int .i64 2] 66)).alloc (Obj.cells #[.int .i64 3, .int .i64 2] 66)) (hA0.ext (ext_alloc _ _)) rfl (by omega) hB0 rfl (by omega)
  rw [top_18.1, top_18.2] at C0
  have C0 := Lib.hid C0
  have HB0 : Hid (BlkC ((((w.alloc (Obj.cells #[.slice a l.length c, .slice a2 ws.length c2] 32)).alloc (Obj.cells #[.int .i64 x, .int .i64 y] 53)).alloc (Obj.cells #[.int .i64 0, .int .i64 2] 66)).alloc (Obj.cells #[.int .i64 3, .int .i64 2] 66)) w.heap.size #[.slice a l.length c, .slice a2 ws.length c2] 32) := Lib.hid ((((BlkC.new w _ 32).alloc _).alloc _).alloc _)
  have HP0 : Hid (BlkC ((((w.alloc (Obj.cells #[.slice a l.length c, .slice a2 ws.length c2] 32)).alloc (Obj.cells #[.int .i64 x, .int .i64 y] 53)).alloc (Obj.cells #[.int .i64 0, .int .i64 2] 66)).alloc (Obj.cells #[.int .i64 3, .int .i64 2] 66)) (w.heap.size + 1) #[.int .i64 x, .int .i64 y] 53) := Lib.hid (by
    have := ((BlkC.new (w.alloc (Obj.cells #[.slice a l.length c, .slice a2 ws.length c2] 32)) #[.int .i64 x, .int .i64 y] 53).alloc (Obj.cells #[.int .i64 0, .int .i64 2] 66)).alloc (Obj.cells #[.int .i64 3, .int .i64 2] 66)
    simpa using this)
  have hE0 : Ext w ((((w.alloc (Obj.cells #[.slice a l.length c, .slice a2 ws.length c2] 32)).alloc (Obj.cells #[.int .i64 x, .int .i64 y] 53)).alloc (Obj.cells #[.int .i64 0, .int .i64 2] 66)).alloc (Obj.cells #[.int .i64 3, .int .i64 2] 66)) := (((ext_alloc _ _).trans' (ext_alloc _ _)).trans' (ext_alloc _ _)).trans' (ext_alloc _ _)
  have HE0 := Lib.hid hE0
  clear hA0 hB0 hE0
  go_enter Try.func16, Try.ntmps16
  go_wp2_with fail
  refine C0.out.mono ?_
  rintro e w1 ⟨rfl, hX1⟩
  have hE1 := HE0.out.trans' hX1
  have HB := Lib.hid (HB0.out.ext hX1)
  have HP := Lib.hid (HP0.out.ext hX1)
  have hz := HB.out.lt
  have hz2 := HP.out.lt
  clear C0 HB0 HP0 HE0 hX1
  have g0 := HB.out.cellv 0 (v := .slice a l.length c) rfl
  have g1 := HB.out.cellv 1 (v := .slice a2 ws.length c2) rfl
  go_wp2_with fail
  refine (f32_c a l.length c l _ (hl.ext hE1) rfl hlx).mono ?_
  rintro e w2 ⟨rfl, hX2⟩
  have hE2 := hE1.trans' hX2
  clear g0 g1
  have g0 := (HB.out.ext hX2).cellv 0 (v := .slice a l.length c) rfl
  have g1 := (HB.out.ext hX2).cellv 1 (v := .slice a2 ws.length c2) rfl
  rcases Bool.eq_false_or_eq_true (longB l) with h1 | h1
  · rw [h1]
    go_wp2_with fail
    go_ret
    exact ⟨rfl, hE2⟩
  obtain ⟨q1, q2⟩ := longB_no h1
  rw [h1]
  clear h1
  by_cases h2 : 100 < ws.length
  · have hb2 : decide ((100 : Int) < (ws.length : Int)) = true := decide_eq_true (by omega)
    go_wp2_with fail
    go_ret
    exact ⟨rfl, hE2⟩
  have hb2 : decide ((100 : Int) < (ws.length : Int)) = false := decide_eq_false (by omega)
  by_cases h3 : 100 < m.length
  · have hb3 : decide ((100 : Int) < (m.length : Int)) = true := decide_eq_true (by omega)
    go_wp2_with fail
    go_ret
    exact ⟨rfl, hE2⟩
  have hb3 : decide ((100 : Int) < (m.length : Int)) = false := decide_eq_false (by omega)
  have hlen : l.length ≤ 140737488355328 := by omega
  have hlen2 : m.length ≤ 140737488355328 := by omega
  have hlen3 : ws.length ≤ 140737488355328 := by omega
  have Hin : Hid (∀ j, (hj : j < l.length) → l[j].length ≤ 140737488355328) := Lib.hid (fun j hj => by have := q2 j hj; omega)
  clear q2
  go_wp2_with fail
  refine (f47_c a l.length c l _ (hl.ext hE2) rfl hlen Hin.out).mono ?_
  rintro e w3 ⟨rfl, hX3⟩
  have hE3 := hE2.trans' hX3
  have hX3 := hX2.trans' hX3
  clear g0 g1 hb2 hb3
  have g0 := (HB.out.ext hX3).cellv 0 (v := .slice a l.length c) rfl
  have g1 := (HB.out.ext hX3).cellv 1 (v := .slice a2 ws.length c2) rfl
  by_cases h0 : loadsErr l = 0
  case neg =>
    have C51 := Lib.hid (fun W (hW : Loads W a l) => f51_c a l.length c l W hW rfl hlen Hin.out)
    have hb : (loadsErr l != 0) = true := by simp [h0]
    have hEE : (loadsErr l == loadsErr l) = true := by simp
    clear h0
    generalize loadsErr l = E at *
    go_wp2_with fail
    refine (C51.out _ (hl.ext hE3)).mono ?_
    rintro e w4 ⟨v4, rfl, hrow, hX4⟩
    obtain ⟨a4, c4, rfl, hA4⟩ := atoms_of_row hrow
    clear hrow hA4 C51
    go_wp2_with fail
    go_ret
    exact ⟨rfl, hE3.trans' hX4⟩
  have hok := loadsErr_ok h0
  have hp1 := hok.pos
  have h5 := hok.five
  obtain ⟨b1, o1, aF, cF, ha, hb1, hc1, hF⟩ := hl 0 (by omega)
  subst ha
  obtain ⟨b2, o2, aL, cL, ha, hb2, hc2, hL⟩ := hl (l.length - 1) (by omega)
  simp only [Option.some.injEq, Addr.mk.injEq, and_true] at ha
  obtain ⟨rfl, rfl⟩ := ha
  have vF := hok.load 0 (by omega)
  have vL := hok.load (l.length - 1) (by omega)
  have ht := (hok.fit (l.length - 1) (by omega)).symm
  have lF := (listErr_ok vF).1
  have lL := (listErr_ok vL).1
  have HK := Lib.hid (fun k (hk : kindB k = true) => top_kind vF vL ht hk)
  have HAr := Lib.hid (top_area vF vL ht)
  have HPr := Lib.hid (top_pair vF vL ht).1
  have HBe := Lib.hid (fun (h : betErr l[0] l[l.length - 1] x y = 0) => top_bet vF vL h)
  have H0 := Lib.hid h0
  have HOk := Lib.hid hok
  rw [h0]
  rw [Nat.add_zero] at hc1
  generalize l[0] = F at *
  generalize l[l.length - 1] = L at *
  clear h0 vF vL ht hok
  obtain ⟨K, hK1, hK2⟩ : ∃ K, l.length - 1 = K ∧ (l.length ≤ K + 1 ∧ K + 1 ≤ l.length) := ⟨_, rfl, by omega⟩
  rw [hK1] at hc2
  clear hK1
  have f0 := (hE3.cell' hb1).trans hc1
  have f1 := (hE3.cell' hb1).trans hc2
  have hwr : IntKind.i64.wrap ((l.length : Int) - 1) = (K : Int) := by
    rw [show (l.length : Int) - 1 = (K : Int) by omega]; exact IntWalk.i64_in _ (by omega)
  clear hc1 hc2 hb2
  have hz3 : w.heap.size < w3.heap.size := Nat.lt_of_lt_of_le hz hX3.size
  have hb13 : b1 < w3.heap.size := Nat.lt_of_lt_of_le hb1 hE3.size
  have HC30 := Lib.hid (fun W (hW : Ext w W) k => f30_c aF aL F.length cF L.length cL F L k W (hF.ext hW) rfl (by omega) (hL.ext hW) rfl (by omega))
  have HC57 := Lib.hid (fun W (hW : Ext w W) k => f57_c aF aL F.length cF L.length cL F L k W (hF.ext hW) rfl (by omega) (hL.ext hW) rfl (by omega))
  have HC58 := Lib.hid (fun W (hW : Ext w W) => f58_c aF aL F.length cF L.length cL F L W (hF.ext hW) rfl (by omega) (hL.ext hW) rfl (by omega))
  have HC40 := Lib.hid (fun W (hW : Ext w W) => f40_c aF aL F.length cF L.length cL F L x y W (hF.ext hW) rfl (by omega) (hL.ext hW) rfl (by omega))
  have HC39a := Lib.hid (fun W (hW : Ext w W) => f39_c aF F.length cF F y W (hF.ext hW) rfl (by omega))
  have HC39b := Lib.hid (fun W (hW : Ext w W) => f39_c aL L.length cL L y W (hL.ext hW) rfl (by omega))
  clear hF hL
  go_wp2_with fail
  refine wp_region_ext (by kernel_rfl) (by kernel_rfl) ?_
  repeat (go_big_quiet_step (fail))
  refine wpQuiet_nil ?_
  intro w4 hX4
  have hE4 := hE3.trans' hX4
  have hX4 := hX3.trans' hX4
  clear f0 f1 hwr hz3 hb13 g0 g1 hX2 hX3 hE2 hE3
  have hB1 := apart_bd (l := F) (m := L) 1
  have hV1 : (apartV F L 1 != apartV F L 1) = false := by simp
  go_wp2_with fail
  go_loopw [14] (fun i wr => ∃ p : Int, (1 ≤ p ∧ p ≤ 3) ∧ i = .int .i64 p ∧ Ext w4 wr) (fun i _ => (4 - intOf i).toNat)
  case atStart => exact ⟨1, by omega, rfl, Below.refl _ _⟩
  case round =>
    obtain ⟨p, hp, rfl, hX5⟩ := hrel
    have hE5 := hE4.trans' hX5
    by_cases hlt : p ≤ 2
    · have hkd : kindB p = true := by unfold kindB; simp; omega
      obtain ⟨r1, r2, r3⟩ := HK.out p hkd
      have C1 := Lib.hid (fun W (hW : Ext w W) => HC30.out W hW p)
      have C2 := Lib.hid (fun W (hW : Ext w W) => HC57.out W hW p)
      rw [r1] at C1
      rw [r2, r3] at C2
      have hVV : (apartV F L p != apartV F L p) = false := by simp
      clear r1 r2 r3 hkd HC30 HC57 HC58 HC40 HC39a HC39b HBe HAr HPr HK
      generalize apartV F L p = V at *
      go_wp2_with fail
      refine (C1.out _ hE5).mono ?_
      rintro e w6 ⟨rfl, hX6⟩
      have hE6 := hE5.trans' hX6
      have hX6 := hX5.trans' hX6
      go_wp2_with fail
      refine (C2.out _ hE6).mono ?_
      rintro e w7 ⟨rfl, hX7⟩
      have hX7 := hX6.trans' hX7
      go_wp2_with fail
      go_roundw
      case rel => exact ⟨p + 1, by omega, by go_num, hX7⟩
      case measure => simp [intOf]; omega
    have C1 := Lib.hid (fun W (hW : Ext w W) => HC30.out W hW 1)
    have C2 := HC58.out wr hE5
    rw [HAr.out, HPr.out] at C2
    rw [(HK.out 1 rfl).1] at C1
    clear HC30 HC57 HC58 HAr HPr HK
    obtain ⟨w5, rfl⟩ : ∃ w5 : World, w5 = wr := ⟨_, rfl⟩
    have hX5 := hX4.trans' hX5
    have HV1 := Lib.hid hV1
    clear hV1
    go_wp2_with fail
    refine C2.mono ?_
    clear C2
    rintro e w6 ⟨rfl, hX6⟩
    have hE6 := hE5.trans' hX6
    have hX6 := hX5.trans' hX6
    go_wp2_with fail
    refine (C1.out _ hE6).mono ?_
    rintro e w7 ⟨rfl, hX7⟩
    have hE7 := hE6.trans' hX7
    have hX7 := hX6.trans' hX7
    have hV1 := HV1.out
    clear C1 HV1 hX4 hX5 hX6 hE1 hE4 hE5 hE6
    have p0 := (HP.out.ext hX7).cellv 0 (v := .int .i64 x) rfl
    have p1 := (HP.out.ext hX7).cellv 1 (v := .int .i64 y) rfl
    go_wp2_with fail
    refine (HC40.out _ hE7).mono ?_
    rintro e w8 ⟨v8, rfl, hrow, hX8⟩
    obtain ⟨a8, c8, rfl, hA8⟩ := atoms_of_row hrow
    clear hrow
    have hE8 := hE7.trans' hX8
    have hX8 := hX7.trans' hX8
    clear HC40 p0 p1 hX7 hE7 hV1
    by_cases h0 : betErr F L x y = 0
    case neg =>
      have hb : (betErr F L x y == 0) = false := by simpa using h0
      clear h0 HBe HC39a HC39b
      generalize betErr F L x y = E at *
      generalize betL F L x y = M at *
      obtain ⟨wj, rfl⟩ : ∃ wj : World, wj = w8 := ⟨_, rfl⟩
      have hEj := hE8
      have hXj := hX8
      clear hE8 hX8 hA8 hp hlt
      have g0 := (HB.out.ext hXj).cellv 0 (v := .slice (some ⟨b1, o1, none⟩) l.length c) rfl
      have g1 := (HB.out.ext hXj).cellv 1 (v := .slice a2 ws.length c2) rfl
      have HR := Lib.hid (top_own H0.out)
      have C53 := f53_c (some ⟨b1, o1, none⟩) l.length c l wj (hl.ext hEj) rfl hlen Hin.out
      rw [H0.out] at C53
      generalize rankV l ((l.length - 1) / 2) = R at *
      go_wp2_with fail
      refine C53.mono ?_
      clear C53
      rintro e w13 ⟨v13, rfl, hrow, hX13⟩
      obtain ⟨a13, c13, rfl, hA13⟩ := atoms_of_row hrow
      clear hrow
      have HA13 := Lib.hid hA13
      have hE13 := hEj.trans' hX13
      have hX13 := hXj.trans' hX13
      clear g0 g1 hA13
      have g0 := (HB.out.ext hX13).cellv 0 (v := .slice (some ⟨b1, o1, none⟩) l.length c) rfl
      have g1 := (HB.out.ext hX13).cellv 1 (v := .slice a2 ws.length c2) rfl
      have C24 := f24_c (some ⟨b1, o1, none⟩) a2 l.length c ws.length c2 l ws w13 (hl.ext hE13) rfl hlen Hin.out (hw.ext hE13) rfl hlen3
      by_cases hwz : weighedErr l ws = 0
      case neg =>
        have hw1 : weighedErr l ws = 1 := (top_weighed H0.out).resolve_left hwz
        rw [hw1] at C24
        clear hwz hw1
        go_wp2_with fail
        refine C24.mono ?_
        clear C24
        rintro e w14 ⟨v14, rfl, hrow, hX14⟩
        obtain ⟨a14, c14, rfl, hA14⟩ := atoms_of_row hrow
        clear hrow hA14
        go_wp2_with fail
        go_ret
        exact ⟨rfl, hE13.trans' hX14⟩
      have Hwz := Lib.hid hwz
      obtain ⟨hok, hws, hwb⟩ := weighed_ok hwz
      have Hval := Lib.hid (means_valid hwz)
      obtain ⟨hML2, -⟩ := listErr_ok Hval.out
      have Hsaid := Lib.hid (reach_said hwz)
      have Hsc := Lib.hid (fun i (hi : i < l.length) => reach_scale hwz hi)
      have Hrb := Lib.hid (fun (A : Int) (M : List Atom) q (hq : q ≤ l.length) => reach_bd (A := A) (M := M) h5 hwb hq)
      have hnb := leastNum_bd hwz
      have hdb := leastDen_bd hwz
      have Hw6 : Hid (∀ j, j < ws.length → 0 ≤ gi ws j ∧ gi ws j ≤ 1000000) := Lib.hid (fun j hj => by have := hwb j (by omega); omega)
      have hsA := sumR_bd (f := gi ws) (A := 1) (B := 9) hwb l.length (Nat.le_refl _)
      rw [show sumR (gi ws) l.length = sumTo ws l.length from rfl] at hsA
      have hws1 : l.length ≤ ws.length ∧ ws.length ≤ l.length := by omega
      have Hlw : Hid (sumTo ws ws.length = sumTo ws l.length) := Lib.hid (by rw [hws])
      have Hwb := Lib.hid hwb
      have HSq := Lib.hid (fun (h : sumErr l ws m 2 = 0) => (sums_said h).2.2)
      have C37 := Lib.hid (fun W (hW : Ext w W) => f37_c (some ⟨b1, o1, none⟩) a2 l.length c ws.length c2 l ws W (hl.ext hW) rfl hlen Hin.out (hw.ext hW) rfl hlen3)
      unfold RetLeast at C37
      rw [hwz] at C24 C37
      clear hwz hok hws hwb
      generalize leastNum l ws = N at *
      generalize leastDen l ws = D at *
      generalize meansL l ws = M2 at *
      go_wp2_with fail
      refine C24.mono ?_
      clear C24
      rintro e w14 ⟨v14, rfl, hrow, hX14⟩
      obtain ⟨a14, c14, rfl, hA14⟩ := atoms_of_row hrow
      clear hrow
      have HA14 := Lib.hid hA14
      have HA13 := Lib.hid (HA13.out.ext hX14)
      have hE14 := hE13.trans' hX14
      have hX14 := hX13.trans' hX14
      clear g0 g1 hA14
      have g0 := (HB.out.ext hX14).cellv 0 (v := .slice (some ⟨b1, o1, none⟩) l.length c) rfl
      have g1 := (HB.out.ext hX14).cellv 1 (v := .slice a2 ws.length c2) rfl
      go_wp2_with fail
      refine (f26_c a2 ws.length c2 ws _ (hw.ext hE14) rfl (by omega) Hw6.out).mono ?_
      rintro e w15 ⟨rfl, hX15⟩
      rw [Hlw.out]
      have HA13 := Lib.hid (HA13.out.ext hX15)
      have HA14 := Lib.hid (HA14.out.ext hX15)
      have hE15 := hE14.trans' hX15
      have hX15 := hX14.trans' hX15
      clear g0 g1
      have g0 := (HB.out.ext hX15).cellv 0 (v := .slice (some ⟨b1, o1, none⟩) l.length c) rfl
      have g1 := (HB.out.ext hX15).cellv 1 (v := .slice a2 ws.length c2) rfl
      generalize sumTo ws l.length = A at *
      go_wp2_with fail
      refine (C37.out _ hE15).mono ?_
      clear C37
      rintro e w16 ⟨rfl, hX16⟩
      have HA13 := Lib.hid (HA13.out.ext (hX16.trans' (ext_alloc w16 (.cells #[.int .i64 N, .int .i64 D] 49))))
      have HA14 := Lib.hid (HA14.out.ext (hX16.trans' (ext_alloc w16 (.cells #[.int .i64 N, .int .i64 D] 49))))
      have hE16 := hE15.trans' (hX16.trans' (ext_alloc w16 (.cells #[.int .i64 N, .int .i64 D] 49)))
      have hX16 := hX15.trans' hX16
      have HR1 := Lib.hid (BlkC.new w16 #[.int .i64 N, .int .i64 D] 49)
      have hz16 := HR1.out.lt
      have hz17 : w.heap.size < w16.heap.size := Nat.lt_of_lt_of_le hz hX16.size
      have hX16 := hX16.trans' (ext_alloc w16 (.cells #[.int .i64 N, .int .i64 D] 49))
      clear g0 g1 hX13 hX14 hX15 hE13 hE14 hE15 hXj hEj
      have g0 := (HB.out.ext hX16).cellv 0 (v := .slice (some ⟨b1, o1, none⟩) l.length c) rfl
      have g1 := (HB.out.ext hX16).cellv 1 (v := .slice a2 ws.length c2) rfl
      have hd1 : decide (D < 1) = false := decide_eq_false (by omega)
      have hd2 : decide (45 < D) = false := decide_eq_false (by omega)
      go_wp2_with fail
      clear hd1 hd2 g0 g1
      generalize hBk : w16.heap.size = Bk at *
      generalize (w16.alloc (.cells #[.int .i64 N, .int .i64 D] 49)) = w17 at *
      clear hBk
      go_loopw [37, 38] (fun s i wr => ∃ q : Nat, q ≤ l.length ∧ i = .int .i64 q ∧ s = .int .i64 (sumR (fun i => gi ws i * apartV (scaleL (gl l i) A) M2 2) q) ∧ Ext w17 wr) (fun _ i _ => l.length - (intOf i).toNat)
      case atStart => exact ⟨0, Nat.zero_le _, rfl, rfl, Below.refl _ _⟩
      case round =>
        obtain ⟨q, hq, rfl, rfl, hX18⟩ := hrel
        have hE18 := hE16.trans' hX18
        have HB18 := HB.out.ext (hX16.trans' hX18)
        have g0 := HB18.cellv 0 (v := .slice (some ⟨b1, o1, none⟩) l.length c) rfl
        have g1 := HB18.cellv 1 (v := .slice a2 ws.length c2) rfl
        clear HB18
        by_cases hlt : q < l.length
        · obtain ⟨b3, o3, aq, cq, hab, hb3, hc3, hi3⟩ := hl.ext hE18 q hlt
          simp only [Option.some.injEq, Addr.mk.injEq, and_true] at hab
          obtain ⟨rfl, rfl⟩ := hab
          obtain ⟨s1, s2⟩ := Hsc.out q hlt
          have C1 := f39_c aq l[q].length cq l[q] A wr hi3 rfl (Hin.out q hlt)
          rw [s1] at C1
          unfold scaleV at C1
          rw [if_pos s1] at C1
          have C1 := Lib.hid C1
          have Hs2 := Lib.hid s2
          have hll := scaleL_length l[q] A
          have hl40 : (scaleL l[q] A).length ≤ 140737488355328 := by rw [hll]; exact Hin.out q hlt
          clear s1 s2 hll
          have Hs : Hid (sumR (fun i => gi ws i * apartV (scaleL (gl l i) A) M2 2) (q + 1) = sumR (fun i => gi ws i * apartV (scaleL (gl l i) A) M2 2) q + gi ws q * apartV (scaleL l[q] A) M2 2) := Lib.hid (by simp only [sumR]; rw [gl_at hlt])
          have t3 := Hrb.out A M2 q hq
          have t1 := Hwb.out q hlt
          have t2 := apart_bd (l := scaleL l[q] A) (m := M2) 2
          clear HR HSq Hsaid Hsc Hrb HR1
          go_wp2_with fail
          refine C1.out.mono ?_
          rintro e w19 ⟨v19, rfl, hrow, hX19⟩
          obtain ⟨a19, c19, rfl, hA19⟩ := atoms_of_row hrow
          clear hrow
          have hE19 := hE18.trans' hX19
          have hX19 := hX18.trans' hX19
          have C2 := f30_c a19 a14 (scaleL l[q] A).length c19 M2.length c14 (scaleL l[q] A) M2 2 w19 hA19 rfl hl40 (HA14.out.ext hX19) rfl (by omega)
          rw [Hs2.out] at C2
          have C2 := Lib.hid C2
          generalize sumR (fun i => gi ws i * apartV (scaleL (gl l i) A) M2 2) q = S0 at *
          generalize apartV (scaleL l[q] A) M2 2 = V at *
          go_wp2_with fail
          refine C2.out.mono ?_
          rintro e w20 ⟨rfl, hX20⟩
          have hE20 := hE19.trans' hX20
          have hX20 := hX19.trans' hX20
          clear g0 g1
          have g1 := (HB.out.ext (hX16.trans' hX20)).cellv 1 (v := .slice a2 ws.length c2) rfl
          obtain ⟨b4, o4, rfl, hb4, hc4⟩ := hw.ext hE20 q (by omega)
          rw [← gi_at] at hc4
          have hqw : q < ws.length := by omega
          generalize gi ws q = xx at *
          have t4 := mulbd (a := xx) (b := V) (A := 9) (B := 576000000000000) (by omega) (by omega)
          clear C1 C2
          go_wp2_with fail
          go_roundw
          case rel => exact ⟨q + 1, by omega, by go_num, by rw [Hs.out], hX20⟩
          case measure => simp [intOf]; omega
        obtain rfl : q = l.length := by omega
        have t3 := Hrb.out A M2 l.length (Nat.le_refl _)
        have HR7 := HR1.out.ext hX18
        have r0 := HR7.cellv 0 (v := .int .i64 N) rfl
        have r1 := HR7.cellv 1 (v := .int .i64 D) rfl
        have Hsaid := Hsaid.out
        generalize sumR (fun i => gi ws i * apartV (scaleL (gl l i) A) M2 2) l.length = S0 at *
        have m1 := mulbd (a := S0) (b := D) (A := 25920000000000000) (B := 45) (by omega) (by omega)
        have m2 := mulbd (a := N) (b := A) (A := 364500000000) (B := 45) (by omega) (by omega)
        have m3 := mulbd (a := N * A) (b := A) (A := 16402500000000) (B := 45) (by omega) (by omega)
        have hbq : (S0 * D != N * A * A) = false := by simpa using Hsaid
        have HR2 := Lib.hid HR7
        obtain ⟨w18, rfl⟩ : ∃ w18 : World, w18 = wr := ⟨_, rfl⟩
        have HA13 := Lib.hid (HA13.out.ext hX18)
        have hX18 := hX16.trans' hX18
        clear HR7 Hsaid Hsc Hrb HR1 HA14 hX16 hE16 hlt
        go_wp2_with (at_make; refine wpList_make_full _ rfl (.tmp 325) (.tmp 325) 30 rfl w18.heap.size 3 i0 (.int .i64 0) 1 Try.underlying30 Hi.out.1 Hi.out.2.1 Hi.out.2.2.1 .i64 .i64 l.length l.length l.length rfl rfl rfl rfl (by rw [Hi.out.2.2.2]; omega) (by unfold maxLen; omega) (Nat.le_refl _) ?_; intro w19 hrow hgrow; have hX19 := (Below.refl _ w18).grown hgrow (Nat.le_refl _) (by simp); rw [show (Value.int IntKind.i64 0).cells = #[.int .i64 0] from rfl, made_one] at hrow; have Hrow := Lib.hid hrow; clear hrow hgrow r0 r1 g0 g1 m1 m2 m3 hbq t3)
        go_loopw [44] (fun i wr => ∃ q : Nat, q ≤ l.length ∧ i = .int .i64 q ∧ Ext w18 wr ∧ Hid (wr.ownsRow w18.heap.size 3 1 (.slice (some ⟨w18.heap.size, 0, none⟩) l.length l.length) l.length ((onesTo l.length q).map (.int .i64)))) (fun i _ => l.length - (intOf i).toNat)
        case atStart => exact ⟨0, by omega, rfl, hX19, by rw [onesTo_zero, List.map_replicate]; exact Hrow⟩
        case round =>
          obtain ⟨q, hq, rfl, hX20, H⟩ := hrel
          by_cases hlt : q < l.length
          · have hcc := ones_cell H.out hlt
            have hff := H.out.frozenAt q
            have H2 := Lib.hid (ones_store H.out)
            go_wp2_with fail
            go_roundw
            case rel => exact ⟨q + 1, by omega, by go_num, hX20.setCell (Nat.le_refl _) _, H2⟩
            case measure => simp [intOf]; omega
          obtain rfl : q = l.length := by omega
          have H2 := H.out
          rw [onesTo_all] at H2
          obtain ⟨ad, cp, he, hI⟩ := ints_of_row H2
          have hol : (onesL l.length).length = l.length := by simp [onesL]
          rw [hol] at he
          injection he with he1 he2 he3
          have hE20 := hE18.trans' hX20
          have HA20 := Lib.hid (HA13.out.ext hX20)
          obtain ⟨v1, v2, v3⟩ := HR.out
          have C1 := f35_c (some ⟨b1, o1, none⟩) ad a13 l.length c l.length cp R.length c13 l (onesL l.length) R 1 wr (hl.ext hE20) rfl hlen Hin.out hI hol hlen HA20.out rfl (by omega)
          have HC2 := Lib.hid (fun W (hW : Ext wr W) => f35_c (some ⟨b1, o1, none⟩) ad b l.length c l.length cp m.length d l (onesL l.length) m 1 W (hl.ext (hE20.trans' hW)) rfl hlen Hin.out (hI.ext hW) hol hlen (hm.ext (hE20.trans' hW)) rfl hlen2)
          have HC3 := Lib.hid (fun W (hW : Ext wr W) => f35_c (some ⟨b1, o1, none⟩) a2 b l.length c ws.length c2 m.length d l ws m 2 W (hl.ext (hE20.trans' hW)) rfl hlen Hin.out (hw.ext (hE20.trans' hW)) rfl hlen3 (hm.ext (hE20.trans' hW)) rfl hlen2)
          rw [v1] at C1
          rw [← he1, ← he3] at C1 HC2
          have HV3 := Lib.hid (v3 m)
          clear he1 he2 he3 hI H H2 hol v1 v2 v3 HR
          have w1_ := sumV_bd (ll := l) (ws := ws) (m := m) (k := 2)
          generalize sumV l (onesL l.length) R 1 = X at *
          generalize sumV l (onesL l.length) m 1 = Y at *
          generalize sumV l ws m 2 = Z at *
          generalize sumErr l (onesL l.length) m 1 = E1 at *
          generalize sumErr l ws m 2 = E2 at *
          obtain ⟨w21, rfl⟩ : ∃ w21 : World, w21 = wr := ⟨_, rfl⟩
          have hX21 := hX18.trans' hX20
          have g0 := (HB.out.ext hX21).cellv 0 (v := .slice (some ⟨b1, o1, none⟩) l.length c) rfl
          have g1 := (HB.out.ext hX21).cellv 1 (v := .slice a2 ws.length c2) rfl
          go_wp2_with fail
          refine C1.mono ?_
          clear C1
          rintro e w22 ⟨rfl, hX22⟩
          clear g0 g1
          have g0 := (HB.out.ext (hX21.trans' hX22)).cellv 0 (v := .slice (some ⟨b1, o1, none⟩) l.length c) rfl
          have g1 := (HB.out.ext (hX21.trans' hX22)).cellv 1 (v := .slice a2 ws.length c2) rfl
          go_wp2_with fail
          refine (HC2.out _ hX22).mono ?_
          clear HC2
          rintro e w23 ⟨rfl, hX23⟩
          have hX23 := hX22.trans' hX23
          clear g0 g1
          have g0 := (HB.out.ext (hX21.trans' hX23)).cellv 0 (v := .slice (some ⟨b1, o1, none⟩) l.length c) rfl
          have g1 := (HB.out.ext (hX21.trans' hX23)).cellv 1 (v := .slice a2 ws.length c2) rfl
          go_wp2_with fail
          refine (HC3.out _ hX23).mono ?_
          clear HC3
          rintro e w24 ⟨rfl, hX24⟩
          have hX24 := hX23.trans' hX24
          have hE24 := hE20.trans' hX24
          have HR8 := HR2.out.ext (hX20.trans' hX24)
          have r0 := HR8.cellv 0 (v := .int .i64 N) rfl
          have r1 := HR8.cellv 1 (v := .int .i64 D) rfl
          clear g0 g1 HR8 HR2
          have m1 := mulbd (a := Z) (b := D) (A := 25920000000000000) (B := 45) (by omega) (by omega)
          have k1 := IntWalk.i64_in (Z * D) (by omega)
          by_cases he1 : E1 = 0
          · have hle := HV3.out he1
            have hd1 : decide (X ≤ Y) = true := decide_eq_true hle
            subst he1
            by_cases he2 : E2 = 0
            · have hsq := HSq.out he2
              have hd2 : decide (N ≤ Z * D) = true := decide_eq_true hsq
              subst he2
              go_wp2_with fail
              go_ret
              exact ⟨rfl, hE24⟩
            · have hn2 : (E2 != 0) = true := by simpa using he2
              go_wp2_with fail
              go_ret
              exact ⟨rfl, hE24⟩
          · have hn1 : (E1 != 0) = true := by simpa using he1
            by_cases he2 : E2 = 0
            · have hsq := HSq.out he2
              have hd2 : decide (N ≤ Z * D) = true := decide_eq_true hsq
              subst he2
              go_wp2_with fail
              go_ret
              exact ⟨rfl, hE24⟩
            · have hn2 : (E2 != 0) = true := by simpa using he2
              go_wp2_with fail
              go_ret
              exact ⟨rfl, hE24⟩
    obtain ⟨hs, s1, s2, s3, s4, s5, s6⟩ := HBe.out h0
    have hML : (betL F L x y).length ≤ 40 := (betErr_ok h0).2.2.2 |> fun h => by unfold betL; rw [if_pos h0]; exact h
    have hs1 : scaleV F y = scaleL F y := by unfold scaleV; rw [if_pos s1]
    have hs2 : scaleV L y = scaleL L y := by unfold scaleV; rw [if_pos s2]
    have z1 := scaleL_length F y
    have z2 := scaleL_length L y
    have z3 : (scaleL F y).length ≤ 100 ∧ (scaleL L y).length ≤ 100 := by omega
    rw [s1, hs1] at HC39a
    rw [s2, hs2] at HC39b
    rw [h0]
    have S3 := Lib.hid s3
    have S4 := Lib.hid s4
    have S5 := Lib.hid s5
    have S6 := Lib.hid s6
    have u1 := apart_bd (l := scaleL F y) (m := betL F L x y) 1
    have u2 := apart_bd (l := betL F L x y) (m := scaleL L y) 1
    clear h0 HBe s1 s2 s3 s4 s5 s6 hs1 hs2 z1 z2
    generalize betL F L x y = M at *
    generalize scaleL F y = SF at *
    generalize scaleL L y = SL at *
    have p0 := (HP.out.ext hX8).cellv 0 (v := .int .i64 x) rfl
    have p1 := (HP.out.ext hX8).cellv 1 (v := .int .i64 y) rfl
    go_wp2_with fail
    refine (HC39a.out _ hE8).mono ?_
    rintro e w9 ⟨v9, rfl, hrow, hX9⟩
    obtain ⟨a9, c9, rfl, hA9⟩ := atoms_of_row hrow
    clear hrow
    have hE9 := hE8.trans' hX9
    have hA8 := hA8.ext hX9
    have hX9 := hX8.trans' hX9
    clear p0 p1
    have p0 := (HP.out.ext hX9).cellv 0 (v := .int .i64 x) rfl
    have p1 := (HP.out.ext hX9).cellv 1 (v := .int .i64 y) rfl
    go_wp2_with fail
    refine (HC39b.out _ hE9).mono ?_
    rintro e w10 ⟨v10, rfl, hrow, hX10⟩
    obtain ⟨a10, c10, rfl, hA10⟩ := atoms_of_row hrow
    clear hrow
    have hE10 := hE9.trans' hX10
    have hA8 := hA8.ext hX10
    have hA9 := hA9.ext hX10
    have hX10 := hX9.trans' hX10
    have C1 := f30_c a9 a8 SF.length c9 M.length c8 SF M 1 w10 hA9 rfl (by omega) hA8 rfl (by omega)
    rw [S3.out] at C1
    have C2 := Lib.hid (fun W (hW : Ext w10 W) => f30_c a8 a10 M.length c8 SL.length c10 M SL 1 W (hA8.ext hW) rfl (by omega) (hA10.ext hW) rfl (by omega))
    rw [S4.out] at C2
    clear p0 p1 HC39a HC39b S3 S4 hA8 hA9 hA10 hE8 hE9 hX8 hX9
    generalize apartV SF M 1 = U1 at *
    generalize apartV M SL 1 = U2 at *
    generalize apartV F L 1 = V1 at *
    go_wp2_with fail
    refine C1.mono ?_
    clear C1
    rintro e w11 ⟨rfl, hX11⟩
    have hY11 := hX11
    have hE11 := hE10.trans' hX11
    have hX11 := hX10.trans' hX11
    go_wp2_with fail
    refine (C2.out _ hY11).mono ?_
    clear C2
    rintro e w12 ⟨rfl, hX12⟩
    have hE12 := hE11.trans' hX12
    have hX12 := hX11.trans' hX12
    clear hY11 hE10 hE11 hX10 hX11
    have p0 := (HP.out.ext hX12).cellv 0 (v := .int .i64 x) rfl
    have p1 := (HP.out.ext hX12).cellv 1 (v := .int .i64 y) rfl
    have m1 := mulbd (a := x) (b := V1) (A := 3600) (B := 576000000000000) (by omega) (by omega)
    have m2 := mulbd (a := y) (b := V1) (A := 3600) (B := 576000000000000) (by omega) (by omega)
    have k1 := IntWalk.i64_in (x * V1) (by omega)
    have k2 := IntWalk.i64_in (y * V1) (by omega)
    have k3 := IntWalk.i64_in (U1 + U2) (by omega)
    have hq1 : (U1 + U2 != y * V1) = false := by simp [S6.out]
    have hq2 : (U1 != x * V1) = false := by simp [S5.out]
    obtain ⟨wj, rfl⟩ : ∃ wj : World, wj = w12 := ⟨_, rfl⟩
    have hEj := hE12
    have hXj := hX12
    clear hE12 hX12 S5 S6
    have g0 := (HB.out.ext hXj).cellv 0 (v := .slice (some ⟨b1, o1, none⟩) l.length c) rfl
    have g1 := (HB.out.ext hXj).cellv 1 (v := .slice a2 ws.length c2) rfl
    have HR := Lib.hid (top_own H0.out)
    have C53 := f53_c (some ⟨b1, o1, none⟩) l.length c l wj (hl.ext hEj) rfl hlen Hin.out
    rw [H0.out] at C53
    generalize rankV l ((l.length - 1) / 2) = R at *
    go_wp2_with fail
    refine C53.mono ?_
    clear C53
    rintro e w13 ⟨v13, rfl, hrow, hX13⟩
    obtain ⟨a13, c13, rfl, hA13⟩ := atoms_of_row hrow
    clear hrow
    have HA13 := Lib.hid hA13
    have hE13 := hEj.trans' hX13
    have hX13 := hXj.trans' hX13
    clear g0 g1 hA13
    have g0 := (HB.out.ext hX13).cellv 0 (v := .slice (some ⟨b1, o1, none⟩) l.length c) rfl
    have g1 := (HB.out.ext hX13).cellv 1 (v := .slice a2 ws.length c2) rfl
    have C24 := f24_c (some ⟨b1, o1, none⟩) a2 l.length c ws.length c2 l ws w13 (hl.ext hE13) rfl hlen Hin.out (hw.ext hE13) rfl hlen3
    by_cases hwz : weighedErr l ws = 0
    case neg =>
      have hw1 : weighedErr l ws = 1 := (top_weighed H0.out).resolve_left hwz
      rw [hw1] at C24
      clear hwz hw1
      go_wp2_with fail
      refine C24.mono ?_
      clear C24
      rintro e w14 ⟨v14, rfl, hrow, hX14⟩
      obtain ⟨a14, c14, rfl, hA14⟩ := atoms_of_row hrow
      clear hrow hA14
      go_wp2_with fail
      go_ret
      exact ⟨rfl, hE13.trans' hX14⟩
    have Hwz := Lib.hid hwz
    obtain ⟨hok, hws, hwb⟩ := weighed_ok hwz
    have Hval := Lib.hid (means_valid hwz)
    obtain ⟨hML2, -⟩ := listErr_ok Hval.out
    have Hsaid := Lib.hid (reach_said hwz)
    have Hsc := Lib.hid (fun i (hi : i < l.length) => reach_scale hwz hi)
    have Hrb := Lib.hid (fun (A : Int) (M : List Atom) q (hq : q ≤ l.length) => reach_bd (A := A) (M := M) h5 hwb hq)
    have hnb := leastNum_bd hwz
    have hdb := leastDen_bd hwz
    have Hw6 : Hid (∀ j, j < ws.length → 0 ≤ gi ws j ∧ gi ws j ≤ 1000000) := Lib.hid (fun j hj => by have := hwb j (by omega); omega)
    have hsA := sumR_bd (f := gi ws) (A := 1) (B := 9) hwb l.length (Nat.le_refl _)
    rw [show sumR (gi ws) l.length = sumTo ws l.length from rfl] at hsA
    have hws1 : l.length ≤ ws.length ∧ ws.length ≤ l.length := by omega
    have Hlw : Hid (sumTo ws ws.length = sumTo ws l.length) := Lib.hid (by rw [hws])
    have Hwb := Lib.hid hwb
    have HSq := Lib.hid (fun (h : sumErr l ws m 2 = 0) => (sums_said h).2.2)
    have C37 := Lib.hid (fun W (hW : Ext w W) => f37_c (some ⟨b1, o1, none⟩) a2 l.length c ws.length c2 l ws W (hl.ext hW) rfl hlen Hin.out (hw.ext hW) rfl hlen3)
    unfold RetLeast at C37
    rw [hwz] at C24 C37
    clear hwz hok hws hwb
    generalize leastNum l ws = N at *
    generalize leastDen l ws = D at *
    generalize meansL l ws = M2 at *
    go_wp2_with fail
    refine C24.mono ?_
    clear C24
    rintro e w14 ⟨v14, rfl, hrow, hX14⟩
    obtain ⟨a14, c14, rfl, hA14⟩ := atoms_of_row hrow
    clear hrow
    have HA14 := Lib.hid hA14
    have HA13 := Lib.hid (HA13.out.ext hX14)
    have hE14 := hE13.trans' hX14
    have hX14 := hX13.trans' hX14
    clear g0 g1 hA14
    have g0 := (HB.out.ext hX14).cellv 0 (v := .slice (some ⟨b1, o1, none⟩) l.length c) rfl
    have g1 := (HB.out.ext hX14).cellv 1 (v := .slice a2 ws.length c2) rfl
    go_wp2_with fail
    refine (f26_c a2 ws.length c2 ws _ (hw.ext hE14) rfl (by omega) Hw6.out).mono ?_
    rintro e w15 ⟨rfl, hX15⟩
    rw [Hlw.out]
    have HA13 := Lib.hid (HA13.out.ext hX15)
    have HA14 := Lib.hid (HA14.out.ext hX15)
    have hE15 := hE14.trans' hX15
    have hX15 := hX14.trans' hX15
    clear g0 g1
    have g0 := (HB.out.ext hX15).cellv 0 (v := .slice (some ⟨b1, o1, none⟩) l.length c) rfl
    have g1 := (HB.out.ext hX15).cellv 1 (v := .slice a2 ws.length c2) rfl
    generalize sumTo ws l.length = A at *
    go_wp2_with fail
    refine (C37.out _ hE15).mono ?_
    clear C37
    rintro e w16 ⟨rfl, hX16⟩
    have HA13 := Lib.hid (HA13.out.ext (hX16.trans' (ext_alloc w16 (.cells #[.int .i64 N, .int .i64 D] 49))))
    have HA14 := Lib.hid (HA14.out.ext (hX16.trans' (ext_alloc w16 (.cells #[.int .i64 N, .int .i64 D] 49))))
    have hE16 := hE15.trans' (hX16.trans' (ext_alloc w16 (.cells #[.int .i64 N, .int .i64 D] 49)))
    have hX16 := hX15.trans' hX16
    have HR1 := Lib.hid (BlkC.new w16 #[.int .i64 N, .int .i64 D] 49)
    have hz16 := HR1.out.lt
    have hz17 : w.heap.size < w16.heap.size := Nat.lt_of_lt_of_le hz hX16.size
    have hX16 := hX16.trans' (ext_alloc w16 (.cells #[.int .i64 N, .int .i64 D] 49))
    clear g0 g1 hX13 hX14 hX15 hE13 hE14 hE15 hXj hEj
    have g0 := (HB.out.ext hX16).cellv 0 (v := .slice (some ⟨b1, o1, none⟩) l.length c) rfl
    have g1 := (HB.out.ext hX16).cellv 1 (v := .slice a2 ws.length c2) rfl
    have hd1 : decide (D < 1) = false := decide_eq_false (by omega)
    have hd2 : decide (45 < D) = false := decide_eq_false (by omega)
    go_wp2_with fail
    clear hd1 hd2 g0 g1
    generalize hBk : w16.heap.size = Bk at *
    generalize (w16.alloc (.cells #[.int .i64 N, .int .i64 D] 49)) = w17 at *
    clear hBk
    go_loopw [37, 38] (fun s i wr => ∃ q : Nat, q ≤ l.length ∧ i = .int .i64 q ∧ s = .int .i64 (sumR (fun i => gi ws i * apartV (scaleL (gl l i) A) M2 2) q) ∧ Ext w17 wr) (fun _ i _ => l.length - (intOf i).toNat)
    case atStart => exact ⟨0, Nat.zero_le _, rfl, rfl, Below.refl _ _⟩
    case round =>
      obtain ⟨q, hq, rfl, rfl, hX18⟩ := hrel
      have hE18 := hE16.trans' hX18
      have HB18 := HB.out.ext (hX16.trans' hX18)
      have g0 := HB18.cellv 0 (v := .slice (some ⟨b1, o1, none⟩) l.length c) rfl
      have g1 := HB18.cellv 1 (v := .slice a2 ws.length c2) rfl
      clear HB18
      by_cases hlt : q < l.length
      · obtain ⟨b3, o3, aq, cq, hab, hb3, hc3, hi3⟩ := hl.ext hE18 q hlt
        simp only [Option.some.injEq, Addr.mk.injEq, and_true] at hab
        obtain ⟨rfl, rfl⟩ := hab
        obtain ⟨s1, s2⟩ := Hsc.out q hlt
        have C1 := f39_c aq l[q].length cq l[q] A wr hi3 rfl (Hin.out q hlt)
        rw [s1] at C1
        unfold scaleV at C1
        rw [if_pos s1] at C1
        have C1 := Lib.hid C1
        have Hs2 := Lib.hid s2
        have hll := scaleL_length l[q] A
        have hl40 : (scaleL l[q] A).length ≤ 140737488355328 := by rw [hll]; exact Hin.out q hlt
        clear s1 s2 hll
        have Hs : Hid (sumR (fun i => gi ws i * apartV (scaleL (gl l i) A) M2 2) (q + 1) = sumR (fun i => gi ws i * apartV (scaleL (gl l i) A) M2 2) q + gi ws q * apartV (scaleL l[q] A) M2 2) := Lib.hid (by simp only [sumR]; rw [gl_at hlt])
        have t3 := Hrb.out A M2 q hq
        have t1 := Hwb.out q hlt
        have t2 := apart_bd (l := scaleL l[q] A) (m := M2) 2
        clear HR HSq Hsaid Hsc Hrb HR1
        go_wp2_with fail
        refine C1.out.mono ?_
        rintro e w19 ⟨v19, rfl, hrow, hX19⟩
        obtain ⟨a19, c19, rfl, hA19⟩ := atoms_of_row hrow
        clear hrow
        have hE19 := hE18.trans' hX19
        have hX19 := hX18.trans' hX19
        have C2 := f30_c a19 a14 (scaleL l[q] A).length c19 M2.length c14 (scaleL l[q] A) M2 2 w19 hA19 rfl hl40 (HA14.out.ext hX19) rfl (by omega)
        rw [Hs2.out] at C2
        have C2 := Lib.hid C2
        generalize sumR (fun i => gi ws i * apartV (scaleL (gl l i) A) M2 2) q = S0 at *
        generalize apartV (scaleL l[q] A) M2 2 = V at *
        go_wp2_with fail
        refine C2.out.mono ?_
        rintro e w20 ⟨rfl, hX20⟩
        have hE20 := hE19.trans' hX20
        have hX20 := hX19.trans' hX20
        clear g0 g1
        have g1 := (HB.out.ext (hX16.trans' hX20)).cellv 1 (v := .slice a2 ws.length c2) rfl
        obtain ⟨b4, o4, rfl, hb4, hc4⟩ := hw.ext hE20 q (by omega)
        rw [← gi_at] at hc4
        have hqw : q < ws.length := by omega
        generalize gi ws q = xx at *
        have t4 := mulbd (a := xx) (b := V) (A := 9) (B := 576000000000000) (by omega) (by omega)
        clear C1 C2
        go_wp2_with fail
        go_roundw
        case rel => exact ⟨q + 1, by omega, by go_num, by rw [Hs.out], hX20⟩
        case measure => simp [intOf]; omega
      obtain rfl : q = l.length := by omega
      have t3 := Hrb.out A M2 l.length (Nat.le_refl _)
      have HR7 := HR1.out.ext hX18
      have r0 := HR7.cellv 0 (v := .int .i64 N) rfl
      have r1 := HR7.cellv 1 (v := .int .i64 D) rfl
      have Hsaid := Hsaid.out
      generalize sumR (fun i => gi ws i * apartV (scaleL (gl l i) A) M2 2) l.length = S0 at *
      have m1 := mulbd (a := S0) (b := D) (A := 25920000000000000) (B := 45) (by omega) (by omega)
      have m2 := mulbd (a := N) (b := A) (A := 364500000000) (B := 45) (by omega) (by omega)
      have m3 := mulbd (a := N * A) (b := A) (A := 16402500000000) (B := 45) (by omega) (by omega)
      have hbq : (S0 * D != N * A * A) = false := by simpa using Hsaid
      have HR2 := Lib.hid HR7
      obtain ⟨w18, rfl⟩ : ∃ w18 : World, w18 = wr := ⟨_, rfl⟩
      have HA13 := Lib.hid (HA13.out.ext hX18)
      have hX18 := hX16.trans' hX18
      clear HR7 Hsaid Hsc Hrb HR1 HA14 hX16 hE16 hlt
      go_wp2_with (at_make; refine wpList_make_full _ rfl (.tmp 325) (.tmp 325) 30 rfl w18.heap.size 3 i0 (.int .i64 0) 1 Try.underlying30 Hi.out.1 Hi.out.2.1 Hi.out.2.2.1 .i64 .i64 l.length l.length l.length rfl rfl rfl rfl (by rw [Hi.out.2.2.2]; omega) (by unfold maxLen; omega) (Nat.le_refl _) ?_; intro w19 hrow hgrow; have hX19 := (Below.refl _ w18).grown hgrow (Nat.le_refl _) (by simp); rw [show (Value.int IntKind.i64 0).cells = #[.int .i64 0] from rfl, made_one] at hrow; have Hrow := Lib.hid hrow; clear hrow hgrow r0 r1 g0 g1 m1 m2 m3 hbq t3)
      go_loopw [44] (fun i wr => ∃ q : Nat, q ≤ l.length ∧ i = .int .i64 q ∧ Ext w18 wr ∧ Hid (wr.ownsRow w18.heap.size 3 1 (.slice (some ⟨w18.heap.size, 0, none⟩) l.length l.length) l.length ((onesTo l.length q).map (.int .i64)))) (fun i _ => l.length - (intOf i).toNat)
      case atStart => exact ⟨0, by omega, rfl, hX19, by rw [onesTo_zero, List.map_replicate]; exact Hrow⟩
      case round =>
        obtain ⟨q, hq, rfl, hX20, H⟩ := hrel
        by_cases hlt : q < l.length
        · have hcc := ones_cell H.out hlt
          have hff := H.out.frozenAt q
          have H2 := Lib.hid (ones_store H.out)
          go_wp2_with fail
          go_roundw
          case rel => exact ⟨q + 1, by omega, by go_num, hX20.setCell (Nat.le_refl _) _, H2⟩
          case measure => simp [intOf]; omega
        obtain rfl : q = l.length := by omega
        have H2 := H.out
        rw [onesTo_all] at H2
        obtain ⟨ad, cp, he, hI⟩ := ints_of_row H2
        have hol : (onesL l.length).length = l.length := by simp [onesL]
        rw [hol] at he
        injection he with he1 he2 he3
        have hE20 := hE18.trans' hX20
        have HA20 := Lib.hid (HA13.out.ext hX20)
        obtain ⟨v1, v2, v3⟩ := HR.out
        have C1 := f35_c (some ⟨b1, o1, none⟩) ad a13 l.length c l.length cp R.length c13 l (onesL l.length) R 1 wr (hl.ext hE20) rfl hlen Hin.out hI hol hlen HA20.out rfl (by omega)
        have HC2 := Lib.hid (fun W (hW : Ext wr W) => f35_c (some ⟨b1, o1, none⟩) ad b l.length c l.length cp m.length d l (onesL l.length) m 1 W (hl.ext (hE20.trans' hW)) rfl hlen Hin.out (hI.ext hW) hol hlen (hm.ext (hE20.trans' hW)) rfl hlen2)
        have HC3 := Lib.hid (fun W (hW : Ext wr W) => f35_c (some ⟨b1, o1, none⟩) a2 b l.length c ws.length c2 m.length d l ws m 2 W (hl.ext (hE20.trans' hW)) rfl hlen Hin.out (hw.ext (hE20.trans' hW)) rfl hlen3 (hm.ext (hE20.trans' hW)) rfl hlen2)
        rw [v1] at C1
        rw [← he1, ← he3] at C1 HC2
        have HV3 := Lib.hid (v3 m)
        clear he1 he2 he3 hI H H2 hol v1 v2 v3 HR
        have w1_ := sumV_bd (ll := l) (ws := ws) (m := m) (k := 2)
        generalize sumV l (onesL l.length) R 1 = X at *
        generalize sumV l (onesL l.length) m 1 = Y at *
        generalize sumV l ws m 2 = Z at *
        generalize sumErr l (onesL l.length) m 1 = E1 at *
        generalize sumErr l ws m 2 = E2 at *
        obtain ⟨w21, rfl⟩ : ∃ w21 : World, w21 = wr := ⟨_, rfl⟩
        have hX21 := hX18.trans' hX20
        have g0 := (HB.out.ext hX21).cellv 0 (v := .slice (some ⟨b1, o1, none⟩) l.length c) rfl
        have g1 := (HB.out.ext hX21).cellv 1 (v := .slice a2 ws.length c2) rfl
        go_wp2_with fail
        refine C1.mono ?_
        clear C1
        rintro e w22 ⟨rfl, hX22⟩
        clear g0 g1
        have g0 := (HB.out.ext (hX21.trans' hX22)).cellv 0 (v := .slice (some ⟨b1, o1, none⟩) l.length c) rfl
        have g1 := (HB.out.ext (hX21.trans' hX22)).cellv 1 (v := .slice a2 ws.length c2) rfl
        go_wp2_with fail
        refine (HC2.out _ hX22).mono ?_
        clear HC2
        rintro e w23 ⟨rfl, hX23⟩
        have hX23 := hX22.trans' hX23
        clear g0 g1
        have g0 := (HB.out.ext (hX21.trans' hX23)).cellv 0 (v := .slice (some ⟨b1, o1, none⟩) l.length c) rfl
        have g1 := (HB.out.ext (hX21.trans' hX23)).cellv 1 (v := .slice a2 ws.length c2) rfl
        go_wp2_with fail
        refine (HC3.out _ hX23).mono ?_
        clear HC3
        rintro e w24 ⟨rfl, hX24⟩
        have hX24 := hX23.trans' hX24
        have hE24 := hE20.trans' hX24
        have HR8 := HR2.out.ext (hX20.trans' hX24)
        have r0 := HR8.cellv 0 (v := .int .i64 N) rfl
        have r1 := HR8.cellv 1 (v := .int .i64 D) rfl
        clear g0 g1 HR8 HR2
        have m1 := mulbd (a := Z) (b := D) (A := 25920000000000000) (B := 45) (by omega) (by omega)
        have k1 := IntWalk.i64_in (Z * D) (by omega)
        by_cases he1 : E1 = 0
        · have hle := HV3.out he1
          have hd1 : decide (X ≤ Y) = true := decide_eq_true hle
          subst he1
          by_cases he2 : E2 = 0
          · have hsq := HSq.out he2
            have hd2 : decide (N ≤ Z * D) = true := decide_eq_true hsq
            subst he2
            go_wp2_with fail
            go_ret
            exact ⟨rfl, hE24⟩
          · have hn2 : (E2 != 0) = true := by simpa using he2
            go_wp2_with fail
            go_ret
            exact ⟨rfl, hE24⟩
        · have hn1 : (E1 != 0) = true := by simpa using he1
          by_cases he2 : E2 = 0
          · have hsq := HSq.out he2
            have hd2 : decide (N ≤ Z * D) = true := decide_eq_true hsq
            subst he2
            go_wp2_with fail
            go_ret
            exact ⟨rfl, hE24⟩
          · have hn2 : (E2 != 0) = true := by simpa using he2
            go_wp2_with fail
            go_ret
            exact ⟨rfl, hE24⟩
end Go.Proofs.Ytgnjaapjaglleaa
