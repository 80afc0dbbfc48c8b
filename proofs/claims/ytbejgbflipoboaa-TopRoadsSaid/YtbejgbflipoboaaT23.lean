/- Contracts of roads: distances of the program. -/
import Derived.Test.YtbejgbflipoboaaT22
namespace Go.Proofs.Ytbejgbflipoboaa
open Go.RowKit
attribute [local go_sem] GW.cell
theorem row_old {W : World} {base : Nat} {e : TypeId} {size k : Nat} {v : Value} {xs : List Value} (h : W.ownsRow base e size v k xs) {B : Nat} (hB : B < base) : some B ≠ v.ownBlock := by
  rcases h.2 with ⟨rfl, _⟩ | ⟨g, cap, cur, rfl, hb, hg, _⟩
  · simp [Value.ownBlock]
  · intro e2
    have : B = g := by simpa [Value.ownBlock] using e2
    omega
/-- the first k distances -/
theorem distL_take {M s0 k : Nat} {R : List Road} (hk : k < M) : (distL M R s0).take (k + 1) = (distL M R s0).take k ++ [unfar (gi (distW M R s0) k)] := by
  have hl : k < (distL M R s0).length := by rw [distL_length, distW_length]; exact hk
  rw [List.take_succ_eq_append_getElem hl, ← gi_at hl, distL_at hk]
set_option maxRecDepth 20000 in
set_option maxHeartbeats 8000000 in
theorem f40_c (N : Int) (a : Option Addr) (n c : Nat) (R : List Road) (s0 : Int) (w : World) (hl : Roads w a R) (hn : R.length = n) (hlen : n ≤ 140737488355328) :
    Calls Try.prog 40 #[.agg #[.int .i64 N, .slice a n c], .int .i64 s0] w (RetInts (distV N R s0) (distErr N R s0) w) := by
  subst hn
  obtain ⟨i0, hi0⟩ := info_parts info3
  have Hi := Lib.hid hi0
  clear hi0
  have hE0 := ext_alloc w (.cells #[.int .i64 N, .slice a R.length c] 24)
  have HB := Lib.hid (BlkC.new w #[.int .i64 N, .slice a R.length c] 24)
  have hz := HB.out.lt
  have g0 := HB.out.cellv 0 (v := .int .i64 N) rfl
  have g1 := HB.out.cellv 1 (v := .slice a R.length c) rfl
  go_enter Try.func40, Try.ntmps40
  go_wp2_with fail
  generalize (w.alloc (.cells #[.int .i64 N, .slice a R.length c] 24)) = w0 at *
  refine (f22_c N a R.length c R _ (hl.ext hE0) rfl hlen).mono ?_
  rintro e w1 ⟨rfl, hX1⟩
  have hE1 := hE0.trans' hX1
  by_cases h0 : netErr N R = 0
  case neg =>
    have hb : (netErr N R != 0) = true := by simp [h0]
    have HR : Hid (RetInts (distV N R s0) (distErr N R s0) w (.returned (.tuple #[.slice none 0 0, .int .i64 (netErr N R)])) w1) := Lib.hid (by
      rw [distErr_net h0, distV_no (by rw [distErr_net h0]; exact h0)]; exact retInts_nil hE1)
    clear h0
    generalize netErr N R = E at *
    go_wp2_with fail
    go_ret2
    exact HR.out
  have H0 := Lib.hid h0
  have Hok := Lib.hid (netErr_ok h0)
  have hN := (netErr_ok h0).n1
  have h12 := (netErr_ok h0).r12
  rw [h0]
  clear h0
  clear g0 g1
  have g0 := (HB.out.ext hX1).cellv 0 (v := .int .i64 N) rfl
  have g1 := (HB.out.ext hX1).cellv 1 (v := .slice a R.length c) rfl
  have hzr := (HB.out.ext hX1).lt
  go_wp2_with fail
  refine (f64_c s0 0 (N - 1) _).mono ?_
  rintro e w2 ⟨rfl, rfl⟩
  rcases Bool.eq_false_or_eq_true (withinB s0 0 (N - 1)) with hf | hf
  case inr =>
    have HR : Hid (RetInts (distV N R s0) (distErr N R s0) w (.returned (.tuple #[.slice none 0 0, .int .i64 4])) w1) := Lib.hid (by
      have e1 := distErr_no H0.out hf
      rw [e1, distV_no (by rw [e1]; omega)]; exact retInts_nil hE1)
    rw [hf]
    clear hf
    go_wp2_with fail
    go_ret2
    exact HR.out
  have HE := Lib.hid (distErr_yes H0.out hf)
  rw [hf]
  have hf2 : 0 ≤ s0 ∧ s0 ≤ N - 1 := by simpa [withinB] using hf
  clear hf
  obtain ⟨M, rfl⟩ := Int.eq_ofNat_of_zero_le (show 0 ≤ N by omega)
  obtain ⟨k0, rfl⟩ := Int.eq_ofNat_of_zero_le hf2.1
  have HV := Lib.hid (distV_yes HE.out)
  have hs0 : k0 < M := by omega
  have hmm := @run_makeMap Try.prog
  obtain ⟨X, hrun, hXm, hg⟩ := (MapO.made w1).store Try.underlying85 (by omega) (x := (k0 : Int)) (v := 0) (by omega) (by omega)
  have hXX : Ext w0 X := (hX1.alloc hX1.size (.map #[] 0)).grown hg (by have := hX1.size; simp; omega) (fun j ej => by simp at ej; have := hX1.size; omega)
  have hbX : w1.heap.size < X.heap.size := hXm.lt
  have HX : Hid (MapO X w1.heap.size (mapOf (startW M k0).at_) 1) := Lib.hid (hXm.congr fun x => (mapOf_start hs0 x).symm)
  have HFw := Lib.hid (fun j => fwd_ways Hok.out (fwd_start hs0) j)
  have hbb : w0.heap.size ≤ w1.heap.size := hX1.size
  have HX0 : Hid (MapO X w1.heap.size (mapOf (waysTo R (fwdL R.length) (startW M k0) 0).at_) 1) := HX
  clear hXm hg HX g0 g1 hzr
  have g0 := (HB.out.ext hXX).cellv 0 (v := .int .i64 (M : Int)) rfl
  have g1 := (HB.out.ext hXX).cellv 1 (v := .slice a R.length c) rfl
  have hzr := (HB.out.ext hXX).lt
  go_wp2_with fail
  generalize w1.heap.size = b at *
  go_loopw [34] (fun i wr => ∃ j : Nat, j ≤ M ∧ i = .int .i64 j ∧ Ext w0 wr ∧ ∃ m : Nat, m ≤ 1 + 12 * j ∧ Hid (MapO wr b (mapOf (waysTo R (fwdL R.length) (startW M k0) j).at_) m)) (fun i _ => M - (intOf i).toNat)
  case atStart => exact ⟨0, Nat.zero_le _, rfl, hXX, 1, by omega, HX0⟩
  case round =>
    obtain ⟨j, hj, rfl, hX, m, hm, H⟩ := hrel
    have hE := hE0.trans' hX
    clear g0 g1 hzr
    have g0 := (HB.out.ext hX).cellv 0 (v := .int .i64 (M : Int)) rfl
    have g1 := (HB.out.ext hX).cellv 1 (v := .slice a R.length c) rfl
    have hzr := (HB.out.ext hX).lt
    by_cases hjM : j < M
    case neg =>
      obtain rfl : j = M := by omega
      have Hd : Hid (MapO wr b (mapOf (distW j R k0)) m) := H
      have hbw := H.out.lt
      obtain ⟨wc, hwc⟩ : ∃ wc : World, wc = wr := ⟨_, rfl⟩
      subst hwc
      go_wp2_with fail
      go_loopw [14, 81] (fun v i wr => ∃ k : Nat, k ≤ j ∧ i = .int .i64 k ∧ Ext wc wr ∧ Hid (MapO wr b (mapOf (distW j R k0)) m) ∧ Hid (wr.ownsRow wc.heap.size 3 1 v k (((distL j R k0).take k).map (.int .i64)))) (fun _ i _ => j - (intOf i).toNat)
      case atStart => exact ⟨0, Nat.zero_le _, rfl, Below.refl _ _, Hd, Lib.hid (World.ownsRow_nil _ _ _ _)⟩
      case round =>
        obtain ⟨k, hk, rfl, hX2, H2, HO⟩ := hrel
        by_cases hkj : k < j
        case neg =>
          obtain rfl : k = j := by omega
          have hO := HO.out
          have hll : (distL k R k0).length = k := by rw [distL_length, distW_length]
          rw [List.take_of_length_le (by omega)] at hO
          obtain ⟨ad, cp, hev, hI⟩ := ints_of_row hO
          subst hev
          have HR : Hid (RetInts (distV (k : Int) R (k0 : Int)) (distErr (k : Int) R (k0 : Int)) w (.returned (.tuple #[.slice ad (distL k R k0).length cp, .int .i64 0])) wr) := Lib.hid (by
            rw [HE.out, HV.out]
            exact ⟨_, _, rfl, hI, hE.trans' hX2⟩)
          clear HE HV hll hO hI HO
          go_wp2_with fail
          go_ret2
          exact HR.out
        have hlk := H2.out.look Try.underlying85 (x := (k : Int)) (by omega)
        have hdl : k < (distW j R k0).length := by rw [distW_length]; exact hkj
        rw [mapOf_at hdl] at hlk
        have Ht := Lib.hid (distL_take (R := R) (s0 := k0) hkj)
        generalize hv : gi (distW j R k0) k = v0 at *
        clear hv
        have hne := row_old HO.out hbw
        by_cases hc : v0 = farW
        · rw [if_pos hc] at hlk
          simp only [Option.getD_none, Option.isSome_none] at hlk
          have hun : unfar v0 = -1 := by unfold unfar; rw [if_pos hc]
          rw [hun] at Ht
          clear hun hc
          go_wp2_with (at_builtin; (refine wpList_push1 (x := -1) rfl (.tmp 95) (.tmp 96) 25 rfl Hi.out Try.underlying25 rfl rfl HO.out (by omega) hX2.size ?_; intro v10 w10 H10 hgrow _; have hY10 := ext_append hX2 HO.out (Nat.le_refl _) hgrow))
          go_roundw
          case rel => exact ⟨k + 1, by omega, by go_num, hY10, Lib.hid ((H2.out.ext (ext_alloc _ _)).kept hgrow hne), Lib.hid (by rw [Ht.out]; exact H10)⟩
          case measure => simp [intOf]; omega
        · rw [if_neg hc] at hlk
          simp only [Option.getD_some, Option.isSome_some] at hlk
          have hun : unfar v0 = v0 := by unfold unfar; rw [if_neg hc]
          rw [hun] at Ht
          clear hun hc
          go_wp2_with (at_builtin; (refine wpList_push1 (x := v0) rfl (.tmp 91) (.tmp 93) 25 rfl Hi.out Try.underlying25 rfl rfl HO.out (by omega) hX2.size ?_; intro v10 w10 H10 hgrow _; have hY10 := ext_append hX2 HO.out (Nat.le_refl _) hgrow))
          go_roundw
          case rel => exact ⟨k + 1, by omega, by go_num, hY10, Lib.hid ((H2.out.ext (ext_alloc _ _)).kept hgrow hne), Lib.hid (by rw [Ht.out]; exact H10)⟩
          case measure => simp [intOf]; omega
    have HFj := Lib.hid (HFw.out j)
    have Hnext : Hid (waysTo R (fwdL R.length) (startW M k0) (j + 1) = inW R (fwdL R.length) (waysTo R (fwdL R.length) (startW M k0) j) R.length) := Lib.hid (by rw [waysTo, fwd_length])
    generalize waysTo R (fwdL R.length) (startW M k0) j = Z at *
    have H0' : Hid (MapO wr b (mapOf (inW R (fwdL R.length) Z 0).at_) m) := H
    go_wp2_with fail
    go_loopw [39] (fun i wr => ∃ q : Nat, q ≤ R.length ∧ i = .int .i64 q ∧ Ext w0 wr ∧ ∃ m : Nat, m ≤ 1 + 12 * j + q ∧ Hid (MapO wr b (mapOf (inW R (fwdL R.length) Z q).at_) m)) (fun i _ => R.length - (intOf i).toNat)
    case atStart => exact ⟨0, Nat.zero_le _, rfl, hX, m, by omega, H0'⟩
    case round =>
      obtain ⟨q, hq, rfl, hX, m2, hm2, H⟩ := hrel
      have hE := hE0.trans' hX
      clear g0 g1 hzr
      have g0 := (HB.out.ext hX).cellv 0 (v := .int .i64 (M : Int)) rfl
      have g1 := (HB.out.ext hX).cellv 1 (v := .slice a R.length c) rfl
      have hzr := (HB.out.ext hX).lt
      by_cases hlt : q < R.length
      case neg =>
        obtain rfl : q = R.length := by omega
        go_wp2_with fail
        go_roundw
        case rel => exact ⟨j + 1, by omega, by go_num, hX, m2, by omega, by rw [Hnext.out]; exact H⟩
        case measure => simp [intOf]; omega
      obtain ⟨b9, off, rfl, hb, c1, c2', c3, c4⟩ := hl.ext hE q hlt
      have hfr := Hok.out.fr q hlt
      have hto := Hok.out.to q hlt
      have hln := Hok.out.ln q hlt
      have HQ := fwd_in Hok.out HFj.out q hq
      have Hsucc : Hid (inW R (fwdL R.length) Z (q + 1) = relaxW R (fwdL R.length) (inW R (fwdL R.length) Z q) q) := Lib.hid rfl
      have Hr1 := Lib.hid (fwd_no1 (R := R) (st := inW R (fwdL R.length) Z q) hlt)
      have Hr2 := Lib.hid (fwd_no2 (R := R) (st := inW R (fwdL R.length) Z q) hlt)
      have Hr3 := Lib.hid (fwd_yes (R := R) (st := inW R (fwdL R.length) Z q) hlt)
      generalize inW R (fwdL R.length) Z q = Y at *
      generalize R[q].wd = wd at *
      generalize R[q].fr = fr at *
      generalize R[q].to = tt at *
      generalize R[q].ln = ln at *
      obtain ⟨u, rfl⟩ := Int.eq_ofNat_of_zero_le hfr.1
      obtain ⟨t, rfl⟩ := Int.eq_ofNat_of_zero_le hto.1
      rw [Int.toNat_natCast, Int.toNat_natCast] at Hr3 Hr2
      rw [Int.toNat_natCast] at Hr1
      have ba := HQ.nr u (by omega)
      have bt := HQ.nr t (by omega)
      have htl : t < Y.at_.length := by rw [HQ.la]; omega
      have hul : u < Y.at_.length := by rw [HQ.la]; omega
      have hjq : j * 12 + q ≤ 84 := by omega
      generalize j * 12 + q = cnt at *
      have hXA := ext_alloc wr (.cells #[.int .i64 (u : Int), .int .i64 (t : Int), .int .i64 ln, .int .i64 wd] 55)
      have HT := Lib.hid (BlkC.new wr #[.int .i64 (u : Int), .int .i64 (t : Int), .int .i64 ln, .int .i64 wd] 55)
      have t0 := HT.out.cellv 0 (v := .int .i64 (u : Int)) rfl
      have t1 := HT.out.cellv 1 (v := .int .i64 (t : Int)) rfl
      have t2 := HT.out.cellv 2 (v := .int .i64 ln) rfl
      have ht9 := HT.out.lt
      have hYA := hX.trans' hXA
      have HMA := Lib.hid (H.out.ext hXA)
      have hlk1 := HMA.out.look Try.underlying85 (x := (u : Int)) (by omega)
      have hlk2 := HMA.out.look Try.underlying85 (x := (t : Int)) (by omega)
      have Hset := Lib.hid (fun v hv => mapOf_set (l := Y.at_) (t := t) (v := v) htl hv)
      rw [mapOf_at hul] at hlk1
      rw [mapOf_at htl] at hlk2
      clear H hul htl HQ
      have Hyy : Hid (∀ r, inW R (fwdL R.length) Z (q + 1) = r → r.at_ = Y.at_ → MapO (wr.alloc (.cells #[.int .i64 (u : Int), .int .i64 (t : Int), .int .i64 ln, .int .i64 wd] 55)) b (mapOf (inW R (fwdL R.length) Z (q + 1)).at_) m2) := Lib.hid (fun r e1 e2 => by rw [e1, e2]; exact HMA.out)
      generalize hA : gi Y.at_ u = A at *
      generalize hBv : gi Y.at_ t = B at *
      clear hA hBv
      by_cases q1 : A = farW
      case pos =>
        rw [if_pos q1] at hlk1
        simp only [Option.getD_none, Option.isSome_none] at hlk1
        have HN := Lib.hid (Hyy.out _ Hsucc.out (by rw [Hr1.out q1]))
        clear Hyy Hr1 Hr2 Hr3 q1
        by_cases q2 : B = farW
        · rw [if_pos q2] at hlk2
          simp only [Option.getD_none, Option.isSome_none] at hlk2
          clear q2 ba bt
          go_wp2_with fail
          go_roundw
          case rel => exact ⟨q + 1, by omega, by go_num, hYA, m2, by omega, HN⟩
          case measure => simp [intOf]; omega
        · rw [if_neg q2] at hlk2
          simp only [Option.getD_some, Option.isSome_some] at hlk2
          clear q2 ba
          unfold farW at bt
          go_wp2_with fail
          go_roundw
          case rel => exact ⟨q + 1, by omega, by go_num, hYA, m2, by omega, HN⟩
          case measure => simp [intOf]; omega
      have ba2 : 0 ≤ A ∧ A ≤ 8316 := by
        rcases ba with h | h
        · exact absurd h q1
        · omega
      rw [if_neg q1] at hlk1
      simp only [Option.getD_some, Option.isSome_some] at hlk1
      have hA2 : A < farW := by unfold farW; omega
      clear ba q1
      by_cases q3 : A + ln < B
      case neg =>
        have HN := Lib.hid (Hyy.out _ Hsucc.out (by rw [Hr2.out q3]))
        have q2 : B ≠ farW := by unfold farW; omega
        rw [if_neg q2] at hlk2
        simp only [Option.getD_some, Option.isSome_some] at hlk2
        have hd : decide (A + ln < B) = false := decide_eq_false q3
        clear Hyy Hr1 Hr2 Hr3 q2 hA2
        unfold farW at bt
        go_wp2_with fail
        go_roundw
        case rel => exact ⟨q + 1, by omega, by go_num, hYA, m2, by omega, HN⟩
        case measure => simp [intOf]; omega
      obtain ⟨X2, hrun2, hXm2, hg2⟩ := HMA.out.store Try.underlying85 (by omega) (x := (t : Int)) (v := A + ln) (by omega) (by omega)
      have hX3 : Ext w0 X2 := hYA.grown hg2 hYA.size (fun j ej => by simp at ej; omega)
      have HN : Hid (MapO X2 b (mapOf (inW R (fwdL R.length) Z (q + 1)).at_) (m2 + 1)) := Lib.hid (by
        rw [Hsucc.out, Hr3.out hA2 q3]
        exact hXm2.congr fun x => (Hset.out (A + ln) (by unfold farW; omega) x).symm)
      have hd : decide (A + ln < B) = true := decide_eq_true q3
      clear Hyy Hr1 Hr2 Hr3 hXm2 hg2 Hset hA2
      by_cases q2 : B = farW
      · rw [if_pos q2] at hlk2
        simp only [Option.getD_none, Option.isSome_none] at hlk2
        clear q2 bt q3 hd
        go_wp2_with fail
        go_roundw
        case rel => exact ⟨q + 1, by omega, by go_num, hX3, m2 + 1, by omega, HN⟩
        case measure => simp [intOf]; omega
      · rw [if_neg q2] at hlk2
        simp only [Option.getD_some, Option.isSome_some] at hlk2
        clear q2
        unfold farW at bt
        go_wp2_with fail
        go_roundw
        case rel => exact ⟨q + 1, by omega, by go_num, hX3, m2 + 1, by omega, HN⟩
        case measure => simp [intOf]; omega
end Go.Proofs.Ytbejgbflipoboaa
