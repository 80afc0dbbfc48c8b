/- The last part of TopRoads: the cheapest plan by the distances, walked. -/
import Derived.Deep.LoopGhost
import Derived.Test.YtbejgbflipoboaaWP
import Derived.Test.YtbejgbflipoboaaTrF
import Derived.Test.YtbejgbflipoboaaT22
namespace Go.Proofs.Ytbejgbflipoboaa.Tr
open Go.RowKit
attribute [local go_sem] GW.cell

theorem massPos_yes {x : List Int} {k : Nat} (h : 0 < gi x k) : massPos x (k + 1) = massPos x k ++ [gi x k] ∧ nodesPos x (k + 1) = nodesPos x k ++ [(k : Int)] ∧ massNeg x (k + 1) = massNeg x k ∧ nodesNeg x (k + 1) = nodesNeg x k := by
  have h1 : posB x k = true := decide_eq_true h
  have h2 : negB x k = false := decide_eq_false (by omega)
  unfold massPos nodesPos massNeg nodesNeg
  rw [pick_yes h1, pick_no h2]
  simp
theorem massNeg_yes {x : List Int} {k : Nat} (h : gi x k < 0) : massPos x (k + 1) = massPos x k ∧ nodesPos x (k + 1) = nodesPos x k ∧ massNeg x (k + 1) = massNeg x k ++ [-gi x k] ∧ nodesNeg x (k + 1) = nodesNeg x k ++ [(k : Int)] := by
  have h1 : posB x k = false := decide_eq_false (by omega)
  have h2 : negB x k = true := decide_eq_true h
  unfold massPos nodesPos massNeg nodesNeg
  rw [pick_yes h2, pick_no h1]
  simp
theorem mass_none {x : List Int} {k : Nat} (h : gi x k = 0) : massPos x (k + 1) = massPos x k ∧ nodesPos x (k + 1) = nodesPos x k ∧ massNeg x (k + 1) = massNeg x k ∧ nodesNeg x (k + 1) = nodesNeg x k := by
  have h1 : posB x k = false := decide_eq_false (by omega)
  have h2 : negB x k = false := decide_eq_false (by omega)
  unfold massPos nodesPos massNeg nodesNeg
  rw [pick_no h2, pick_no h1]
  simp
theorem lens_mass (x : List Int) (k : Nat) : (massPos x k).length ≤ k ∧ (massNeg x k).length ≤ k ∧ (nodesPos x k).length ≤ k ∧ (nodesNeg x k).length ≤ k := by
  unfold massPos nodesPos massNeg nodesNeg
  have h1 := pickL_len (posB x) k
  have h2 := pickL_len (negB x) k
  simp only [List.length_map]
  exact ⟨h1, h2, h1, h2⟩
theorem netErr_of {N : Int} {R : List Road} {x : List Int} (h : excErr N R x = 0) : netErr N R = 0 := (excErr_ok h).1
/-- how far the ends are from the beginning number i -/
def distRow (x : List Int) (M : Nat) (R : List Road) (i : Nat) : List Int := (pickL (negB x) M).map fun y => gi (distL M R (gn (pickL (posB x) M) i)) y
/-- the first k rows of the distances -/
def tabTo (x : List Int) (M : Nat) (R : List Road) (k : Nat) : Tbl := (List.range k).map (distRow x M R)
theorem tabTo_succ (x : List Int) (M : Nat) (R : List Road) (k : Nat) : tabTo x M R (k + 1) = tabTo x M R k ++ [distRow x M R k] := by simp [tabTo, List.range_succ]
theorem row_tabTo {x : List Int} {M : Nat} {R : List Road} {n i : Nat} (h : i < n) : row (tabTo x M R n) i = distRow x M R i := by simp [row, tabTo, h]
theorem tab_ok {x : List Int} {M : Nat} {R : List Road} (hM : M ≤ 6) (hs : sumN (gi x) M = 0) (hn : 1 ≤ (pickL (posB x) M).length) (HA : ∀ i j, i < (pickL (posB x) M).length → j < (pickL (negB x) M).length → 0 ≤ gi (distRow x M R i) j ∧ gi (distRow x M R i) j ≤ 99) :
    TOk (pickL (posB x) M).length (pickL (negB x) M).length 0 99 (tabTo x M R (pickL (posB x) M).length) := by
  have hm := neg_some hs hn
  have h2 := pick2_len x M
  refine ⟨hn, by omega, hm, by omega, by simp [tabTo], fun i hi => by rw [row_tabTo hi]; simp [distRow], fun i j hi hj => ?_⟩
  unfold tg
  rw [row_tabTo hi]
  exact HA i j hi hj
theorem tab_near {x : List Int} {M : Nat} {R : List Road} (hok : NetOk (M : Int) R) (HA : ∀ i j, i < (pickL (posB x) M).length → j < (pickL (negB x) M).length → 0 ≤ gi (distRow x M R i) j ∧ gi (distRow x M R i) j ≤ 99) :
    ∀ i j, i < (pickL (posB x) M).length → j < (pickL (negB x) M).length → gi (distW M R (gn (pickL (posB x) M) i)) (gn (pickL (negB x) M) j) < farW ∧ tg (tabTo x M R (pickL (posB x) M).length) i j = gi (distW M R (gn (pickL (posB x) M) i)) (gn (pickL (negB x) M) j) := fun i j hi hj => by
  have h1 := HA i j hi hj
  have e1 : gi (distRow x M R i) j = gi (distL M R (gn (pickL (posB x) M) i)) (gn (pickL (negB x) M) j) := by unfold distRow; rw [gi_mapN hj]
  have h2 := (dist_ok hok (pickL_lt hi).1).near _ (pickL_lt hj).1
  rw [e1, distL_at (pickL_lt hj).1] at h1
  unfold tg
  rw [row_tabTo hi, e1, distL_at (pickL_lt hj).1]
  unfold unfar at h1 ⊢
  rcases h2 with h2 | h2
  · rw [h2] at h1; simp at h1
  · have h3 : gi (distW M R (gn (pickL (posB x) M) i)) (gn (pickL (negB x) M) j) ≠ farW := by unfold farW; omega
    rw [if_neg h3]
    unfold farW
    exact ⟨by omega, rfl⟩
/-- nowhere too much: nothing moves -/
theorem least_zero {x : List Int} {M : Nat} {R : List Road} {g : List Int} {least : Int} (hok : NetOk (M : Int) R) (hs : sumN (gi x) M = 0) (hn : (massPos x M).length = 0) (hg : FlowR M R x g) (hgl : costTo R g R.length = least) (hmin : ∀ f : List Int, FlowR M R x f → least ≤ costTo R f R.length) : least = 0 := by
  have h0 : over (gi x) M = 0 := by
    rw [over_pick, ← massPos_len, hn]; rfl
  have hx : ∀ v, v < M → gi x v = 0 := left_zero (over_zero h0) hs
  have hwd : ∀ k, k < R.length → 0 ≤ (rdK R k).wd ∧ 0 ≤ (rdK R k).ln := fun k hk => by
    have h1 := hok.wd k hk
    have h2 := hok.ln k hk
    rw [rdK_at hk]; omega
  have hz : ∀ k, gi (List.replicate R.length 0) k = 0 := fun k => by unfold gi; rw [List.getElem?_replicate]; split <;> rfl
  have h1 := hmin (List.replicate R.length 0) ⟨by simp, fun k hk => by rw [hz]; exact ⟨Int.le_refl _, (hwd k hk).1⟩, fun v hv => by
    rw [hx v hv]
    unfold NetG.out
    rw [sumN_congr (g := fun _ => 0) (fun k _ => by rw [hz]; simp), sumN_zero]⟩
  have h2 : costTo R (List.replicate R.length 0) R.length = 0 := by
    rw [costR]
    unfold NetG.cost
    rw [sumN_congr (g := fun _ => 0) (fun k _ => by rw [hz]; simp), sumN_zero]
  have h3 : 0 ≤ costTo R g R.length := by
    rw [costR]
    unfold NetG.cost
    exact sumN_nonneg fun k hk => Int.mul_nonneg (hwd k hk).2 (hg.2.1 k hk).1
  omega
theorem over_succ (x : Nat → Int) (k : Nat) : over x (k + 1) = over x k + max (x k) 0 := rfl
set_option maxRecDepth 20000 in
set_option maxHeartbeats 32000000 in
theorem f44_c (M : Nat) (a : Option Addr) (n c : Nat) (R : List Road) (a1 : Option Addr) (n1 c1 : Nat) (x : List Int) (least : Int) (w : World) (hl : Roads w a R) (hn : R.length = n) (hx : Ints w a1 x) (hn1 : x.length = n1) (hE : excErr (M : Int) R x = 0)
    {g : List Int} (hg : FlowR M R x g) (hgl : costTo R g R.length = least) (hmin : ∀ f : List Int, FlowR M R x f → least ≤ costTo R f R.length) :
    Calls Try.prog 44 #[.agg #[.int .i64 (M : Int), .slice a n c, .slice a1 n1 c1], .int .i64 least] w fun e w' => e = .returned (.bool true) ∧ Ext w w' := by
  obtain ⟨e1, e2, e3, e4⟩ := excErr_ok hE
  have hok := netErr_ok e1
  obtain rfl : M = n1 := by omega
  rw [hn1, sumR_N] at e4
  have hM6 := hok.n1
  have hE0 := ext_alloc w (.cells #[.int .i64 (M : Int), .slice a n c, .slice a1 M c1] 27)
  have HB := Lib.hid (BlkC.new w #[.int .i64 (M : Int), .slice a n c, .slice a1 M c1] 27)
  have HX := Lib.hid hx
  have Hn1 := Lib.hid hn1
  have Hbd : Hid (∀ v, v < M → -30 ≤ gi x v ∧ gi x v ≤ 30) := Lib.hid (fun v hv => e3 v (by omega))
  have Hov : Hid (∀ k, k ≤ M → 0 ≤ over (gi x) k ∧ over (gi x) k ≤ 30 * k) := Lib.hid (fun k hk => by
    have key : ∀ q : Nat, q ≤ M → 0 ≤ over (gi x) q ∧ over (gi x) q ≤ 30 * q := by
      intro q
      induction q with
      | zero => intro _; simp [over, sumN]
      | succ q ih =>
        intro hq
        have h1 := ih (by omega)
        have h2 := e3 q (by omega)
        rw [over_succ]; omega
    exact key k hk)
  have Hs := Lib.hid e4
  have Hne := Lib.hid e1
  have Hok := Lib.hid hok
  have HFl := Lib.hid (And.intro hg (And.intro hgl hmin))
  have HL := Lib.hid hl
  have Hn := Lib.hid hn
  clear e1 e2 e3 e4 hok hx hn1 hE hg hgl hmin hl hn
  have hz := HB.out.lt
  go_enter Try.func44, Try.ntmps44
  go_upto_region 1 with fail
  generalize (w.alloc (.cells #[.int .i64 (M : Int), .slice a n c, .slice a1 M c1] 27)) = w0 at *
  go_wp2_with fail
  go_loopw [5, 6, 7, 8, 9, 10] (fun v5 v6 v7 v8 v9 i wr => ∃ k : Nat, k ≤ M ∧ i = .int .i64 k ∧ v9 = .int .i64 (over (gi x) k) ∧ Ext w0 wr ∧ Hid (Four wr w0.heap.size v5 v6 v7 v8 (massPos x k) (massNeg x k) (nodesPos x k) (nodesNeg x k))) (fun _ _ _ _ _ i _ => M - (intOf i).toNat)
  case atStart => exact ⟨0, Nat.zero_le _, rfl, rfl, Below.refl _ _, Four.nil _ _⟩
  case round =>
    obtain ⟨k, hk, rfl, rfl, hX, HF⟩ := hrel
    obtain ⟨wo, rfl⟩ : ∃ wo : World, wo = wr := ⟨_, rfl⟩
    have g2 := (HB.out.ext hX).cellv 2 (v := .slice a1 M c1) rfl
    have hzr := (HB.out.ext hX).lt
    by_cases hlt : k < M
    case neg =>
      obtain rfl : M = k := by omega
      obtain ⟨a5, c5, rfl⟩ := slice_form HF.out.r5
      obtain ⟨a6, c6, rfl⟩ := slice_form HF.out.r6
      obtain ⟨a7, c7, rfl⟩ := slice_form HF.out.r7
      obtain ⟨a8, c8, rfl⟩ := slice_form HF.out.r8
      by_cases h0 : (massPos x M).length = 0
      · have hl0 := least_zero Hok.out Hs.out h0 HFl.out.1 HFl.out.2.1 HFl.out.2.2
        have d1 : (((massPos x M).length : Int) == 0) = true := by simp [h0]
        have d2 : (least == 0) = true := by simp [hl0]
        clear h0 hl0
        generalize over (gi x) M = ov at *
        generalize (massPos x M).length = n5 at *
        go_wp2_with fail
        go_ret
        exact ⟨rfl, hE0.trans' hX⟩
      have d1 : (((massPos x M).length : Int) == 0) = false := by rw [beq_eq_false_iff_ne]; omega
      have HF5 := Lib.hid HF.out
      have hn1 : 1 ≤ (massPos x M).length := by omega
      obtain ⟨q1, q2, q3, q4⟩ := lens_mass x M
      have Hnl : Hid ((nodesPos x M).length = (massPos x M).length ∧ (nodesNeg x M).length = (massNeg x M).length) := Lib.hid (by simp [nodesPos, massPos, nodesNeg, massNeg])
      clear h0 HF
      go_wp2_with fail
      go_loopw [11, 12] (fun v11 i wr => ∃ k : Nat, k ≤ (nodesPos x M).length ∧ i = .int .i64 k ∧ Ext w0 wr ∧ Ext wo wr ∧ Hid (OwnT 25 wr wo.heap.size wr.heap.size v11 (tabTo x M R k)) ∧ Hid (∀ i j, i < k → j < (nodesNeg x M).length → 0 ≤ gi (distRow x M R i) j ∧ gi (distRow x M R i) j ≤ 99)) (fun _ i _ => (nodesPos x M).length - (intOf i).toNat)
      case atStart => exact ⟨0, Nat.zero_le _, rfl, hX, Below.refl _ _, OwnT.nil _ _ _, Lib.hid (fun i j h => by omega)⟩
      case round =>
        obtain ⟨k, hk, rfl, hX1, hXo, HT, HA⟩ := hrel
        by_cases hltk : k < (nodesPos x M).length
        case neg =>
          have hkn : k = (pickL (posB x) M).length := by have := Hnl.out.1; rw [massPos_len] at this; omega
          have hnn : (nodesNeg x M).length = (pickL (negB x) M).length := by rw [Hnl.out.2, massNeg_len]
          have hHA := HA.out
          have hTT := HT.out
          rw [hkn, hnn] at hHA
          rw [hkn] at hTT
          have hs0 := Hs.out
          have hnp : 1 ≤ (pickL (posB x) M).length := by rw [← massPos_len]; exact hn1
          have hTok := tab_ok (by omega) hs0 hnp hHA
          have hnear := tab_near Hok.out hHA
          have hfit := wide_fits (by omega) Hbd.out hs0 hnp hTok
          obtain ⟨aT, cT, rfl, hTab⟩ := hTT.table
          obtain ⟨ad5, cp5, he5, hI5⟩ := ints_of_row (HF5.out.ext hXo).r5
          have he5' : a5 = ad5 := by injection he5
          subst he5'
          obtain ⟨ad6, cp6, he6, hI6⟩ := ints_of_row (HF5.out.ext hXo).r6
          have he6' : a6 = ad6 := by injection he6
          subst he6'
          have C77 := f77_c a5 a6 aT (massPos x M).length (massNeg x M).length (tabTo x M R (pickL (posB x) M).length).length cT c5 c6 (massPos x M) (massNeg x M) (tabTo x M R (pickL (posB x) M).length) wr hI5 rfl (by omega) hI6 rfl (by omega) hTab rfl (by rw [hTok.len]; have := hTok.n5; omega) (fun j hj => by have h1 := hTok.cols j (by rw [← hTok.len]; exact hj); rw [row_at hj] at h1; have := hTok.m5; omega)
          unfold RetLeast at C77
          rw [hfit] at C77
          have C77 := Lib.hid C77
          have Hsd := Lib.hid (fun v hv => wide_said (v := v) Hok.out Hbd.out hs0 hnp hTok hnear hv HFl.out.1 HFl.out.2.1 HFl.out.2.2)
          clear hkn hnn hHA hTT hTok hnear hfit hTab he5 hI5 he6 hI6 hs0 hnp HA HT
          go_wp2_with fail
          refine C77.out.mono ?_
          rintro e w5 ⟨v, rfl, hv, hY⟩
          have hX5 := hX1.trans' hY
          obtain ⟨s1, s2⟩ := Hsd.out v hv
          have Hs2 := Lib.hid s2
          have d1' : decide (least < v) = false := decide_eq_false (by omega)
          clear C77 hv s2 Hsd
          have g0 := (HB.out.ext hX5).cellv 0 (v := .int .i64 (M : Int)) rfl
          have g1 := (HB.out.ext hX5).cellv 1 (v := .slice a n c) rfl
          have hz5 := (HB.out.ext hX5).lt
          have hov := Hov.out M (Nat.le_refl _)
          have hn12 : n ≤ 12 := by have := Hok.out.r12; have := Hn.out; omega
          generalize over (gi x) M = ov at *
          generalize (tabTo x M R (pickL (posB x) M).length).length = tl at *
          go_wp2_with fail
          go_loopw [19] (fun i wr => ∃ q : Nat, q ≤ n ∧ i = .int .i64 q ∧ Ext w0 wr ∧ Hid (∀ k, k < q → ov ≤ (rdK R k).wd)) (fun i _ => n - (intOf i).toNat)
          case atStart => exact ⟨0, Nat.zero_le _, rfl, hX5, Lib.hid (fun k h => by omega)⟩
          case round =>
            obtain ⟨q, hq, rfl, hX6, HW⟩ := hrel
            have g0 := (HB.out.ext hX6).cellv 0 (v := .int .i64 (M : Int)) rfl
            have g1 := (HB.out.ext hX6).cellv 1 (v := .slice a n c) rfl
            have hz6 := (HB.out.ext hX6).lt
            have hE6 := hE0.trans' hX6
            by_cases hltq : q < n
            case neg =>
              obtain rfl : q = n := by omega
              have hvl := Hs2.out (fun k hk => HW.out k (by rw [← Hn.out]; exact hk))
              have d3 : (v == least) = true := by simp [hvl]
              clear hvl
              go_wp2_with fail
              go_ret
              exact ⟨rfl, hE6⟩
            obtain ⟨bq, oq, rfl, hbq, -, -, -, hcq⟩ := HL.out.ext hE6 q (by rw [Hn.out]; exact hltq)
            have Hq := Lib.hid hltq
            have hqR : q < R.length := by rw [Hn.out]; exact hltq
            have hwq : (rdK R q).wd = R[q].wd := by rw [rdK_at hqR]
            rw [← hwq] at hcq
            have Hwq : Hid ((rdK R q).wd = (rdK R q).wd) := Lib.hid rfl
            clear hwq Hwq hqR
            generalize hwd : (rdK R q).wd = wd2 at *
            have Hwd := Lib.hid hwd
            clear hwd
            by_cases hnar : wd2 < ov
            · have d3 : decide (wd2 < ov) = true := decide_eq_true hnar
              go_wp2_with fail
              go_ret
              exact ⟨rfl, hE6⟩
            · have d3 : decide (wd2 < ov) = false := decide_eq_false hnar
              go_wp2_with fail
              go_roundw
              case rel => exact ⟨q + 1, by have := Hq.out; omega, by go_num, hX6, Lib.hid (fun k hk => by
                rcases Nat.lt_succ_iff_lt_or_eq.1 hk with hk | rfl
                · exact HW.out k hk
                · rw [Hwd.out]; omega)⟩
              case measure => have := Hq.out; simp [intOf]; omega
        have hkp : k < (pickL (posB x) M).length := by rw [Hnl.out.1, massPos_len] at hltk; exact hltk
        have hpn := (pickL_lt hkp).1
        obtain ⟨ad, cp, he7, hI7⟩ := ints_of_row (HF5.out.ext hXo).r7
        have he' : a7 = ad := by injection he7
        subst he'
        obtain ⟨b7, o7, rfl, hb7, hc7⟩ := hI7 k hltk
        rw [show (nodesPos x M)[k]?.getD 0 = gi (nodesPos x M) k from rfl, show gi (nodesPos x M) k = ((gn (pickL (posB x) M) k : Nat) : Int) by unfold nodesPos; rw [gi_mapN hkp]] at hc7
        have Hdr : Hid (distRow x M R k = (pickL (negB x) M).map fun y => gi (distL M R (gn (pickL (posB x) M) k)) y) := Lib.hid rfl
        generalize gn (pickL (posB x) M) k = p at *
        have C49 := fun W (h : Ext w W) => f49_c (M : Int) a n c R (p : Int) W (HL.out.ext h) Hn.out (by have := Hok.out.r12; have := Hn.out; omega)
        have hde : distErr (M : Int) R (p : Int) = 0 := by unfold distErr; rw [Hne.out, if_neg (by omega), if_pos (withinB_iff.2 (by omega))]
        have hdv : distV (M : Int) R (p : Int) = distL M R p := by unfold distV; rw [if_pos hde, Int.toNat_natCast, Int.toNat_natCast]
        rw [hde, hdv] at C49
        unfold RetInts at C49
        have C49 := Lib.hid C49
        have g0 := (HB.out.ext hX1).cellv 0 (v := .int .i64 (M : Int)) rfl
        have g1 := (HB.out.ext hX1).cellv 1 (v := .slice a n c) rfl
        have hzk := (HB.out.ext hX1).lt
        have hE2 := hE0.trans' hX1
        obtain ⟨wk, rfl⟩ : ∃ wk : World, wk = wr := ⟨_, rfl⟩
        clear he7 hI7 hde hdv hkp
        go_wp2_with fail
        go_cut [13, 14] from 83 to 91 (fun v13 v14 wx => ∃ aD cD, v13 = .slice aD (distL M R p).length cD ∧ v14 = .int .i64 0 ∧ Hid (Ints wx aD (distL M R p)) ∧ Ext wk wx)
        case first =>
          go_region_held3 (fun w' => w'.cell? ⟨w.heap.size, 0, none⟩ = some (.int .i64 (M : Int)) ∧ w'.cell? ⟨w.heap.size, 1, none⟩ = some (.slice a n c) ∧ w'.cell? ⟨b7, o7 + k, none⟩ = some (.int .i64 (p : Int))) (first | assumption | exact ⟨by assumption, by assumption, by assumption⟩ | go_keep)
            (first
              | (go_at_call 49
                 refine (C49.out _ (hE2.trans' (ext_drew _))).mono ?_
                 rintro e wl ⟨aD, cD, rfl, hD, hXl⟩
                 have hXd := (ext_drew _).trans' hXl
                 have k0 := (HB.out.ext (hX1.trans' hXd)).cellv 0 (v := .int .i64 (M : Int)) rfl
                 have k1 := (HB.out.ext (hX1.trans' hXd)).cellv 1 (v := .slice a n c) rfl
                 have k7 := (hXd.cell' hb7).trans hc7))
          have HD := Lib.hid hD
          clear hD
          go_wp2_with fail
          go_meet
          case rel => exact ⟨aD, cD, rfl, rfl, HD, hXd⟩
        case rest =>
          obtain ⟨aD, cD, rfl, rfl, HD, hXk⟩ := hcut
          obtain ⟨wd, rfl⟩ : ∃ wd : World, wd = wc := ⟨_, rfl⟩
          have hXw := hX1.trans' hXk
          have hXod := hXo.trans' hXk
          have HT2 := Lib.hid (HT.out.ext hXk)
          have HDl : Hid ((distL M R p).length = M) := Lib.hid (by rw [distL_length, distW_length])
          have hrl : (distRow x M R k).length = (nodesNeg x M).length := by simp [distRow, nodesNeg]
          have Hrl := Lib.hid hrl
          have hszd := hXw.size
          clear g0 g1 hzk hc7 hrl C49
          rw [HDl.out]
          go_wp2_with fail
          go_loopw [15, 16] (fun v15 i wr => ∃ j : Nat, j ≤ (nodesNeg x M).length ∧ i = .int .i64 j ∧ Ext wd wr ∧ Hid (RowI wr wd.heap.size v15 ((distRow x M R k).take j)) ∧ Hid (∀ q, q < j → 0 ≤ gi (distRow x M R k) q ∧ gi (distRow x M R k) q ≤ 99)) (fun _ i _ => (nodesNeg x M).length - (intOf i).toNat)
          case atStart => exact ⟨0, Nat.zero_le _, rfl, Below.refl _ _, by rw [List.take_zero]; exact World.ownsRow_nil _ _ _ _, Lib.hid (fun q h => by omega)⟩
          case round =>
            obtain ⟨j, hj, rfl, hXj, HR, HQ⟩ := hrel
            by_cases hltj : j < (nodesNeg x M).length
            case neg =>
              obtain rfl : j = (nodesNeg x M).length := by omega
              have hR1 := HR.out
              rw [← Hrl.out, List.take_length] at hR1
              unfold RowI at hR1
              obtain ⟨aR, cR, rfl⟩ := slice_form hR1
              have HR1 := Lib.hid hR1
              obtain ⟨AA, CC, GG, OO, hT⟩ := HT2.out
              have hTl : (tabTo x M R k).length = k := by simp [tabTo]
              have hown0 := row_ext hT.own hXj
              rw [hTl] at hown0
              have Hown0 := Lib.hid hown0
              have HTT := Lib.hid hT
              have HTl := Lib.hid hTl
              have hszj := hXj.size
              have hszo := hXod.size
              have hk6 : k ≤ 6 := by omega
              have hszk2 := hXk.size
              clear hR1 hT hTl hown0
              go_wp2_with (at_builtin; refine wpList_push rfl (.tmp 128) (.tmp 130) 92 rfl infoS Try.underlying92 rfl rfl rfl (by simp [Value.oneCell']) Hown0.out (by omega) (by omega) (by omega) ?_; intro v' w' hown hP; have HT3 := Lib.hid (OwnL.push2 (distRow x M R k) rfl HTl.out HTT.out hXj HR1.out hszk2 hszo hP hown); have hX4 := hP.ext (hXod.trans' hXj) Hown0.out (Nat.le_refl _); clear hown hP)
              go_roundw
              case rel => exact ⟨k + 1, by omega, by go_num, hX.trans' hX4, hX4, by rw [tabTo_succ]; exact HT3, Lib.hid (fun i q hi hq => by
                rcases Nat.lt_succ_iff_lt_or_eq.1 hi with hi | rfl
                · exact HA.out i q hi hq
                · exact HQ.out q hq)⟩
              case measure => simp [intOf]; omega
            have hjp : j < (pickL (negB x) M).length := by rw [Hnl.out.2, massNeg_len] at hltj; exact hltj
            have hyM := (pickL_lt hjp).1
            obtain ⟨ad2, cp2, he8, hI8⟩ := ints_of_row ((HF5.out.ext hXod).ext hXj).r8
            have he' : a8 = ad2 := by injection he8
            subst he'
            obtain ⟨b8, o8, rfl, hb8, hc8⟩ := hI8 j hltj
            rw [show (nodesNeg x M)[j]?.getD 0 = gi (nodesNeg x M) j from rfl, show gi (nodesNeg x M) j = ((gn (pickL (negB x) M) j : Nat) : Int) by unfold nodesNeg; rw [gi_mapN hjp]] at hc8
            have Hdj : Hid (gi (distRow x M R k) j = gi (distL M R p) (gn (pickL (negB x) M) j)) := Lib.hid (by rw [Hdr.out, gi_mapN hjp])
            have Htk : Hid ((distRow x M R k).take (j + 1) = (distRow x M R k).take j ++ [gi (distL M R p) (gn (pickL (negB x) M) j)]) := Lib.hid (by
              have h3 : j < (distRow x M R k).length := by rw [Hrl.out]; exact hltj
              rw [List.take_succ_eq_append_getElem h3, ← gi_get h3, Hdj.out])
            have Hlt : Hid (((distRow x M R k).take j).length = j) := Lib.hid (by rw [List.length_take, Hrl.out]; omega)
            generalize gn (pickL (negB x) M) j = y at *
            obtain ⟨bD, oD, rfl, hbD, hcD⟩ := HD.out.ext hXj y (by rw [HDl.out]; exact hyM)
            rw [show (distL M R p)[y]?.getD 0 = gi (distL M R p) y from rfl] at hcD
            generalize gi (distL M R p) y = z at *
            have hE3 := hE0.trans' (hXw.trans' hXj)
            clear he8 hI8 hjp
            by_cases hz0 : z < 0
            · have d1 : decide (z < 0) = true := decide_eq_true hz0
              go_wp2_with fail
              go_ret
              exact ⟨rfl, hE3⟩
            have d1 : decide (z < 0) = false := decide_eq_false hz0
            by_cases hz1 : 99 < z
            · have d2 : decide (99 < z) = true := decide_eq_true hz1
              go_wp2_with fail
              go_ret
              exact ⟨rfl, hE3⟩
            have d2 : decide (99 < z) = false := decide_eq_false hz1
            have hszj := hXj.size
            have hR1 := HR.out
            unfold RowI at hR1
            rw [Hlt.out] at hR1
            have HR1 := Lib.hid hR1
            have hj6 : j ≤ 6 := by omega
            clear hR1
            go_wp2_with (at_builtin; refine wpList_push rfl (.tmp 118) (.tmp 126) 25 rfl infoI Try.underlying25 rfl rfl rfl (by simp [Value.oneCell']) HR1.out (by omega) (by omega) hszj ?_; intro v' w' hown hP; have hXj2 := hP.ext hXj HR1.out (Nat.le_refl _); have HR2 : Hid (RowI w' wd.heap.size v' ((distRow x M R k).take (j + 1))) := Lib.hid (by unfold RowI; rw [Htk.out, List.length_append, List.length_singleton, List.map_append, Hlt.out]; exact hown); clear hown hP)
            go_roundw
            case rel => exact ⟨j + 1, by omega, by go_num, hXj2, HR2, Lib.hid (fun q hq => by
              rcases Nat.lt_succ_iff_lt_or_eq.1 hq with hq | rfl
              · exact HQ.out q hq
              · rw [Hdj.out]; omega)⟩
            case measure => simp [intOf]; omega
    have hE1 := hE0.trans' hX
    obtain ⟨b1, o1, rfl, hbw, hcw⟩ := HX.out k (by rw [Hn1.out]; exact hlt)
    rw [show x[k]?.getD 0 = gi x k from rfl] at hcw
    have hc1 := (hE1.cell' hbw).trans hcw
    have hbk := Hbd.out k hlt
    have hok1 := Hov.out k hk
    obtain ⟨q1, q2, q3, q4⟩ := lens_mass x k
    have hsz := hX.size
    by_cases h1 : 0 < gi x k
    · have d1 : decide (0 < gi x k) = true := decide_eq_true h1
      have d2 : decide (gi x k < 0) = false := decide_eq_false (by omega)
      obtain ⟨p1, p2, p3, p4⟩ := massPos_yes h1
      have Hp := Lib.hid (And.intro p1 (And.intro p2 (And.intro p3 p4)))
      have Ho : Hid (over (gi x) (k + 1) = over (gi x) k + gi x k) := Lib.hid (by rw [over_succ]; omega)
      clear p1 p2 p3 p4 h1
      generalize gi x k = z at *
      generalize over (gi x) k = ov at *
      go_wp2_with (first
        | (at_builtin; refine wpList_push rfl (.tmp 33) (.tmp 39) 25 rfl infoI Try.underlying25 rfl rfl rfl (by simp [Value.oneCell']) HF.out.r5 (by omega) (by omega) hsz ?_; intro v' w' hown hP; have HF2 := Lib.hid (HF.out.push hP hown); have hX2 := hP.ext hX HF.out.r5 (Nat.le_refl _); have hsz2 := hX2.size; have g2' := (HB.out.ext hX2).cellv 2 (v := .slice (some ⟨b1, o1, none⟩) M c1) rfl; have hzr' := (HB.out.ext hX2).lt; have hc1' := ((hE0.trans' hX2).cell' hbw).trans hcw; clear hown hP)
        | (at_builtin; refine wpList_push rfl (.tmp 41) (.tmp 43) 25 rfl infoI Try.underlying25 rfl rfl rfl (by simp [Value.oneCell']) HF2.out.rot.rot.r5 (by omega) (by omega) hsz2 ?_; intro v'' w'' hown hP; have HF3 := Lib.hid ((HF2.out.rot.rot.push hP hown).rot.rot); have hX3 := hP.ext hX2 HF2.out.rot.rot.r5 (Nat.le_refl _); have g2'' := (HB.out.ext hX3).cellv 2 (v := .slice (some ⟨b1, o1, none⟩) M c1) rfl; have hzr'' := (HB.out.ext hX3).lt; have hc1'' := ((hE0.trans' hX3).cell' hbw).trans hcw; clear hown hP))
      have HF4 : Hid (Four w'' w0.heap.size v' u6 v'' u8 (massPos x (k + 1)) (massNeg x (k + 1)) (nodesPos x (k + 1)) (nodesNeg x (k + 1))) := Lib.hid (by rw [Hp.out.1, Hp.out.2.1, Hp.out.2.2.1, Hp.out.2.2.2]; exact HF3.out)
      go_roundw
      case rel => exact ⟨k + 1, by omega, by go_num, by rw [Ho.out], hX3, HF4⟩
      case measure => simp [intOf]; omega
    have d1 : decide (0 < gi x k) = false := decide_eq_false h1
    by_cases h2 : gi x k < 0
    · have d2 : decide (gi x k < 0) = true := decide_eq_true h2
      obtain ⟨p1, p2, p3, p4⟩ := massNeg_yes h2
      have Hp := Lib.hid (And.intro p1 (And.intro p2 (And.intro p3 p4)))
      have Ho : Hid (over (gi x) (k + 1) = over (gi x) k) := Lib.hid (by rw [over_succ]; omega)
      clear p1 p2 p3 p4 h1 h2
      generalize gi x k = z at *
      generalize over (gi x) k = ov at *
      go_wp2_with (first
        | (at_builtin; refine wpList_push rfl (.tmp 58) (.tmp 65) 25 rfl infoI Try.underlying25 rfl rfl rfl (by simp [Value.oneCell']) HF.out.rot.r5 (by omega) (by omega) hsz ?_; intro v' w' hown hP; have HF2 := Lib.hid (HF.out.rot.push hP hown).rot.rot.rot; have hX2 := hP.ext hX HF.out.rot.r5 (Nat.le_refl _); have hsz2 := hX2.size; have g2' := (HB.out.ext hX2).cellv 2 (v := .slice (some ⟨b1, o1, none⟩) M c1) rfl; have hzr' := (HB.out.ext hX2).lt; have hc1' := ((hE0.trans' hX2).cell' hbw).trans hcw; clear hown hP)
        | (at_builtin; refine wpList_push rfl (.tmp 67) (.tmp 69) 25 rfl infoI Try.underlying25 rfl rfl rfl (by simp [Value.oneCell']) HF2.out.rot.rot.rot.r5 (by omega) (by omega) hsz2 ?_; intro v'' w'' hown hP; have HF3 := Lib.hid ((HF2.out.rot.rot.rot.push hP hown).rot); have hX3 := hP.ext hX2 HF2.out.rot.rot.rot.r5 (Nat.le_refl _); have g2'' := (HB.out.ext hX3).cellv 2 (v := .slice (some ⟨b1, o1, none⟩) M c1) rfl; have hzr'' := (HB.out.ext hX3).lt; have hc1'' := ((hE0.trans' hX3).cell' hbw).trans hcw; clear hown hP))
      have HF4 : Hid (Four w'' w0.heap.size u5 v' u7 v'' (massPos x (k + 1)) (massNeg x (k + 1)) (nodesPos x (k + 1)) (nodesNeg x (k + 1))) := Lib.hid (by rw [Hp.out.1, Hp.out.2.1, Hp.out.2.2.1, Hp.out.2.2.2]; exact HF3.out)
      go_roundw
      case rel => exact ⟨k + 1, by omega, by go_num, by rw [Ho.out], hX3, HF4⟩
      case measure => simp [intOf]; omega
    have d2 : decide (gi x k < 0) = false := decide_eq_false h2
    obtain ⟨p1, p2, p3, p4⟩ := mass_none (show gi x k = 0 by omega)
    have HF4 : Hid (Four wo w0.heap.size u5 u6 u7 u8 (massPos x (k + 1)) (massNeg x (k + 1)) (nodesPos x (k + 1)) (nodesNeg x (k + 1))) := Lib.hid (by rw [p1, p2, p3, p4]; exact HF.out)
    have Ho : Hid (over (gi x) (k + 1) = over (gi x) k) := Lib.hid (by rw [over_succ]; omega)
    clear p1 p2 p3 p4 h1 h2
    generalize gi x k = z at *
    generalize over (gi x) k = ov at *
    go_wp2_with fail
    go_roundw
    case rel => exact ⟨k + 1, by omega, by go_num, by rw [Ho.out], hX, HF4⟩
    case measure => simp [intOf]; omega
end Go.Proofs.Ytbejgbflipoboaa.Tr
