/- Contracts of roads: distances of the reference. -/
import Derived.Test.YtbejgbflipoboaaT21
import Derived.Test.YtbejgbflipoboaaT5
import Derived.Test.YtbejgbflipoboaaP3
namespace Go.Proofs.Ytbejgbflipoboaa
open Go.RowKit
attribute [local go_sem] GW.cell
theorem distErr_net {N : Int} {R : List Road} {s : Int} (h : netErr N R ≠ 0) : distErr N R s = netErr N R := by unfold distErr; rw [if_pos h]
theorem distErr_no {N : Int} {R : List Road} {s : Int} (h : netErr N R = 0) (hw : withinB s 0 (N - 1) = false) : distErr N R s = 4 := by unfold distErr; rw [if_neg (by simpa using h), hw]; rfl
theorem distErr_yes {N : Int} {R : List Road} {s : Int} (h : netErr N R = 0) (hw : withinB s 0 (N - 1) = true) : distErr N R s = 0 := by unfold distErr; rw [if_neg (by simpa using h), hw]; rfl
theorem distV_no {N : Int} {R : List Road} {s : Int} (h : distErr N R s ≠ 0) : distV N R s = [] := by unfold distV; rw [if_neg h]
theorem distV_yes {M k : Nat} {R : List Road} (h : distErr (M : Int) R (k : Int) = 0) : distV (M : Int) R (k : Int) = distL M R k := by unfold distV; rw [if_pos h, Int.toNat_natCast, Int.toNat_natCast]
theorem fwdL_succ (k : Nat) : fwdL (k + 1) = fwdL k ++ [(k : Int) + 1] := by simp [fwdL, List.range_succ]
theorem arcs_fwd {R : List Road} {k : Nat} (hk : k < R.length) : arcsOf R (fwdL (k + 1)) = arcsOf R (fwdL k) ++ [(⟨R[k].fr, R[k].to, R[k].ln, k, 1⟩ : Rarc)] := by
  rw [fwdL_succ]
  unfold arcsOf
  rw [List.map_append]
  have e1 : arcOf R ((k : Int) + 1) = ⟨R[k].fr, R[k].to, R[k].ln, k, 1⟩ := by
    have en : stepNo ((k : Int) + 1) = k := by unfold stepNo; omega
    unfold arcOf stFr stTo stLn sg
    rw [if_neg (by omega), if_neg (by omega), if_neg (by omega), if_neg (by omega), en, rdK_at hk]
  simp [e1]
/-- labels, the first k of them told -/
def unfarTo (l : List Int) (k : Nat) : List Int := (List.range l.length).map fun i => if i < k then unfar (gi l i) else gi l i
theorem unfarTo_length (l : List Int) (k : Nat) : (unfarTo l k).length = l.length := by simp [unfarTo]
theorem unfarTo_zero (l : List Int) : unfarTo l 0 = l := List.ext_getElem (by simp [unfarTo]) fun j h1 h2 => by simp [unfarTo, gi_at h2]
theorem unfarTo_all (l : List Int) : unfarTo l l.length = l.map unfar := List.ext_getElem (by simp [unfarTo]) fun j h1 h2 => by
  have h3 : j < l.length := by simpa using h2
  simp [unfarTo, h3, gi_at h3]
theorem unfarTo_at {l : List Int} {k : Nat} (h : k < l.length) : gi (unfarTo l k) k = gi l k := by
  rw [gi_at (by simpa [unfarTo] using h)]; simp [unfarTo]
theorem unfarTo_far {l : List Int} {k : Nat} (_h : k < l.length) (e : gi l k = 1000000) : (unfarTo l k).set k (-1) = unfarTo l (k + 1) := List.ext_getElem (by simp [unfarTo]) fun j h1 h2 => by
  rw [List.getElem_set]
  simp only [unfarTo, List.getElem_map, List.getElem_range]
  by_cases c : k = j
  · subst c; rw [if_pos rfl, if_pos (by omega), e]; rfl
  · rw [if_neg c]
    by_cases h : j < k
    · rw [if_pos h, if_pos (by omega)]
    · rw [if_neg h, if_neg (by omega)]
theorem unfarTo_near {l : List Int} {k : Nat} (e : gi l k ≠ 1000000) : unfarTo l (k + 1) = unfarTo l k := List.ext_getElem (by simp [unfarTo]) fun j h1 h2 => by
  simp only [unfarTo, List.getElem_map, List.getElem_range]
  by_cases c : j = k
  · subst c; rw [if_pos (by omega), if_neg (by omega)]
    unfold unfar farW
    rw [if_neg e]
  · by_cases h : j < k
    · rw [if_pos h, if_pos (by omega)]
    · rw [if_neg h, if_neg (by omega)]
set_option maxRecDepth 20000 in
set_option maxHeartbeats 8000000 in
theorem f49_c (N : Int) (a : Option Addr) (n c : Nat) (R : List Road) (s0 : Int) (w : World) (hl : Roads w a R) (hn : R.length = n) (hlen : n ≤ 140737488355328) :
    Calls Try.prog 49 #[.agg #[.int .i64 N, .slice a n c], .int .i64 s0] w (RetInts (distV N R s0) (distErr N R s0) w) := by
  subst hn
  obtain ⟨i0, hi0⟩ := info_parts info84
  have Hi := Lib.hid hi0
  clear hi0
  have hE0 := ext_alloc w (.cells #[.int .i64 N, .slice a R.length c] 24)
  have HB := Lib.hid (BlkC.new w #[.int .i64 N, .slice a R.length c] 24)
  have hz := HB.out.lt
  have g0 := HB.out.cellv 0 (v := .int .i64 N) rfl
  have g1 := HB.out.cellv 1 (v := .slice a R.length c) rfl
  go_enter Try.func49, Try.ntmps49
  go_wp2_with fail
  generalize (w.alloc (.cells #[.int .i64 N, .slice a R.length c] 24)) = w0 at *
  refine (f23_c N a R.length c R _ (hl.ext hE0) rfl hlen).mono ?_
  rintro e w1 ⟨rfl, hX1⟩
  have hE1 := hE0.trans' hX1
  by_cases h0 : netErr N R = 0
  case neg =>
    have hb : (netErr N R != 0) = true := by simp [h0]
    have HR : Hid (RetInts (distV N R s0) (distErr N R s0) w (.returned (.tuple #[.slice none 0 0, .int .i64 (netErr N R)])) w1) := Lib.hid (by
      rw [distErr_net h0, distV_no (by rw [distErr_net h0]; exact h0)]; exact retInts_nil hE1)
    clear h0
    generalize netErr N R = E at *
    go_wp2_with fail
    go_ret2
    exact HR.out
  have H0 := Lib.hid h0
  have Hok := Lib.hid (netErr_ok h0)
  have hN := (netErr_ok h0).n1
  have h12 := (netErr_ok h0).r12
  rw [h0]
  clear h0
  clear g0 g1
  have g0 := (HB.out.ext hX1).cellv 0 (v := .int .i64 N) rfl
  have g1 := (HB.out.ext hX1).cellv 1 (v := .slice a R.length c) rfl
  have hzr := (HB.out.ext hX1).lt
  go_wp2_with fail
  refine (f65_c s0 0 (N - 1) _).mono ?_
  rintro e w2 ⟨rfl, rfl⟩
  rcases Bool.eq_false_or_eq_true (withinB s0 0 (N - 1)) with hf | hf
  case inr =>
    have HR : Hid (RetInts (distV N R s0) (distErr N R s0) w (.returned (.tuple #[.slice none 0 0, .int .i64 4])) w1) := Lib.hid (by
      have e1 := distErr_no H0.out hf
      rw [e1, distV_no (by rw [e1]; omega)]; exact retInts_nil hE1)
    rw [hf]
    clear hf
    go_wp2_with fail
    go_ret2
    exact HR.out
  have HE := Lib.hid (distErr_yes H0.out hf)
  rw [hf]
  have hf2 : 0 ≤ s0 ∧ s0 ≤ N - 1 := by simpa [withinB] using hf
  clear hf
  obtain ⟨M, rfl⟩ := Int.eq_ofNat_of_zero_le (show 0 ≤ N by omega)
  obtain ⟨k0, rfl⟩ := Int.eq_ofNat_of_zero_le hf2.1
  have HV := Lib.hid (distV_yes HE.out)
  have hs0 : k0 < M := by omega
  have HL := Lib.hid (fwdL_in (n := R.length))
  have hfl := fwd_length R.length
  go_wp2_with fail
  go_loopw [7, 8] (fun v i wr => ∃ k : Nat, k ≤ R.length ∧ i = .int .i64 k ∧ Ext w0 wr ∧ Hid (wr.ownsRow w0.heap.size 84 5 v (arcsOf R (fwdL k)).length (rarcV (arcsOf R (fwdL k))))) (fun _ i _ => R.length - (intOf i).toNat)
  case atStart => exact ⟨0, Nat.zero_le _, rfl, hX1, Lib.hid (World.ownsRow_nil _ _ _ _)⟩
  case round =>
    obtain ⟨k, hk, rfl, hX, H⟩ := hrel
    have hE := hE0.trans' hX
    clear g0 g1
    have g0 := (HB.out.ext hX).cellv 0 (v := .int .i64 (M : Int)) rfl
    have g1 := (HB.out.ext hX).cellv 1 (v := .slice a R.length c) rfl
    have hzr := (HB.out.ext hX).lt
    by_cases hlt : k < R.length
    case pos =>
      obtain ⟨b, off, rfl, hb, c1, c2', c3, c4⟩ := hl.ext hE k hlt
      have Hs := Lib.hid (arcs_fwd hlt)
      have hSl : (arcsOf R (fwdL k)).length ≤ 12 := by rw [arcsOf_length, fwd_length]; omega
      generalize arcsOf R (fwdL k) = L at *
      generalize R[k].wd = wd at *
      generalize R[k].fr = fr at *
      generalize R[k].to = tt at *
      generalize R[k].ln = ln at *
      have hXA := ext_alloc wr (.cells #[.int .i64 fr, .int .i64 tt, .int .i64 ln, .int .i64 wd] 55)
      have HT := Lib.hid (BlkC.new wr #[.int .i64 fr, .int .i64 tt, .int .i64 ln, .int .i64 wd] 55)
      have t0 := HT.out.cellv 0 (v := .int .i64 fr) rfl
      have t1 := HT.out.cellv 1 (v := .int .i64 tt) rfl
      have t2 := HT.out.cellv 2 (v := .int .i64 ln) rfl
      have ht9 := HT.out.lt
      have hYA := hX.trans' hXA
      have HA := Lib.hid (row_ext H.out hXA)
      go_upto_region 11 with fail
      generalize wr.alloc (.cells #[.int .i64 fr, .int .i64 tt, .int .i64 ln, .int .i64 wd] 55) = wA at *
      generalize hxb : wr.heap.size = xb at *
      clear hxb
      go_wp2_with (at_builtin; (refine wpList_pushA (s := ⟨fr, tt, ln, k, 1⟩) rfl (.tmp 36) (.tmp 45) rfl Hi.out rfl rfl HA (by omega) hYA.size ?_; intro v10 w10 H10 hgrow; have hY10 := ext_append hYA HA.out (Nat.le_refl _) hgrow; clear hgrow))
      go_roundw
      case rel => exact ⟨k + 1, by omega, by go_num, hY10, Lib.hid (by rw [Hs.out]; exact H10.out)⟩
      case measure => simp [intOf]; omega
    obtain rfl : k = R.length := by omega
    have HV2 := Lib.hid H.out
    obtain ⟨av, cv, e, hAr⟩ := rarcs_of_row HV2.out
    subst e
    have hfn : (fwdL R.length).length = (arcsOf R (fwdL R.length)).length := by rw [arcsOf_length]
    have Hc := Lib.hid (f83_c M a R.length c R av (arcsOf R (fwdL R.length)).length cv (fwdL R.length) k0 wr Hok.out hAr hfn HL.out (by omega) hs0)
    have hfn2 : (arcsOf R (fwdL R.length)).length ≤ 12 := by omega
    clear hAr HV2 H hfn
    generalize (arcsOf R (fwdL R.length)).length = nA at *
    go_wp2_with fail
    refine Hc.out.mono ?_
    rintro e w3 ⟨gA, gB, rfl, HA, HB', hne, hX3⟩
    clear Hc HB'
    have hl2 : (waysR M R (fwdL R.length) k0).at_.length = M := distW_length
    have Hd : Hid (distL M R k0 = (waysR M R (fwdL R.length) k0).at_.map unfar) := Lib.hid rfl
    generalize (waysR M R (fwdL R.length) k0).at_ = A at *
    have hE3 := hE.trans' hX3
    have HA0 : Hid (OwnG w3 3 wr.heap.size gA M M (unfarTo A 0)) := Lib.hid (by rw [unfarTo_zero]; exact HA)
    clear HA g0 g1 hzr
    go_wp2_with fail
    go_loopw [12] (fun i wx => ∃ q : Nat, q ≤ M ∧ i = .int .i64 q ∧ Ext wr wx ∧ Hid (OwnG wx 3 wr.heap.size gA M M (unfarTo A q))) (fun i _ => M - (intOf i).toNat)
    case atStart => exact ⟨0, Nat.zero_le _, rfl, hX3, HA0⟩
    case round =>
      obtain ⟨q, hq, rfl, hX4, HA⟩ := hrel
      have sA := HA.out.slot
      by_cases hlt : q < M
      case neg =>
        obtain rfl : q = M := by omega
        have HR : Hid (RetInts (distV (q : Int) R (k0 : Int)) (distErr (q : Int) R (k0 : Int)) w (.returned (.tuple #[.slice (some ⟨gA, 0, none⟩) q q, .int .i64 0])) wr) := Lib.hid (by
          rw [HE.out, HV.out, Hd.out]
          have e1 : (A.map unfar).length = q := by rw [List.length_map]; exact hl2
          have h5 := HA.out.ints
          rw [← hl2, unfarTo_all] at h5
          exact ⟨_, _, by rw [e1], h5, hE.trans' hX4⟩)
        clear HE HV Hd
        go_wp2_with fail
        go_ret2
        exact HR.out
      have hqa : q < A.length := by omega
      have lA := HA.out.cell (i := q) (by rw [unfarTo_length]; exact hqa)
      rw [gi_def, unfarTo_at hqa] at lA
      have fA := HA.out.froz q
      have H1 := Lib.hid (unfarTo_far (l := A) hqa)
      have H2 := Lib.hid (unfarTo_near (l := A) (k := q))
      generalize gi A q = v at *
      by_cases hv : v = 1000000
      · have hd : (v == 1000000) = true := by simp [hv]
        have HS := Lib.hid (HA.out.store q (-1))
        rw [H1.out hv] at HS
        have hX5 := hX4.setCell (p := ⟨gA, q, none⟩) sA.2.2 (.int .i64 (-1))
        clear hv H1 H2
        go_wp2_with fail
        go_roundw
        case rel => exact ⟨q + 1, by omega, by go_num, hX5, HS⟩
        case measure => simp [intOf]; omega
      · have hd : (v == 1000000) = false := by simp [hv]
        have HS := Lib.hid HA.out
        rw [← H2.out hv] at HS
        clear hv H1 H2
        go_wp2_with fail
        go_roundw
        case rel => exact ⟨q + 1, by omega, by go_num, hX4, HS⟩
        case measure => simp [intOf]; omega
end Go.Proofs.Ytbejgbflipoboaa
