/- Contracts of roads: dammed and Exists of the reference. -/
import Derived.Test.YtbejgbflipoboaaT14
import Derived.Test.YtbejgbflipoboaaP3
namespace Go.Proofs.Ytbejgbflipoboaa
open Go.RowKit
attribute [local go_sem] GW.cell
theorem gb_def (l : List Bool) (i : Nat) : l[i]?.getD false = gb l i := rfl
theorem inTo_succ (x : List Int) (S : List Bool) (k : Nat) : inTo x S (k + 1) = if gb S k then inTo x S k + gi x k else inTo x S k := by
  unfold inTo; simp only [sumR]; split <;> omega
set_option maxHeartbeats 8000000 in
theorem f69_c (M : Nat) (a : Option Addr) (n c : Nat) (R : List Road) (a1 : Option Addr) (n1 c1 : Nat) (x : List Int) (a2 : Option Addr) (n2 c2 : Nat) (S : List Bool) (w : World) (hl : Roads w a R) (hn : R.length = n) (hx : Ints w a1 x) (hn1 : x.length = n1) (hs : Bools w a2 S) (hn2 : S.length = n2) (he : excErr (M : Int) R x = 0) (hS : S.length = M) :
    Calls Try.prog 69 #[.agg #[.int .i64 (M : Int), .slice a n c], .slice a1 n1 c1, .slice a2 n2 c2] w fun e w' => e = .returned (.bool (damB M R x S)) ∧ Ext w w' := by
  subst hn hn1 hn2
  obtain ⟨h1, h2, h3, h4⟩ := excErr_ok he
  have hok := netErr_ok h1
  have hM := hok.n1
  have h12 := hok.r12
  have hxM : x.length ≤ M ∧ M ≤ x.length := by omega
  have hSM : S.length ≤ M ∧ M ≤ S.length := by omega
  have Hbd := Lib.hid (fun k (hk : k ≤ x.length) => inTo_bd h3 S hk (by omega))
  have Hbe := Lib.hid (fun k (hk : k ≤ R.length) => lessTo_bd (n := M) hok (inTo_bd h3 S (k := M) (by omega) (by omega)) k hk)
  have Hfr := Lib.hid hok.fr
  have Hto := Lib.hid hok.to
  have Hwd := Lib.hid hok.wd
  have Hx3 := Lib.hid h3
  have hE0 := ext_alloc w (.cells #[.int .i64 (M : Int), .slice a R.length c] 24)
  have HB := Lib.hid (BlkC.new w #[.int .i64 (M : Int), .slice a R.length c] 24)
  have hz := HB.out.lt
  clear h1 h2 h3 h4 he hok hS
  go_enter Try.func69, Try.ntmps69
  go_wp2_with fail
  generalize (w.alloc (.cells #[.int .i64 (M : Int), .slice a R.length c] 24)) = w0 at *
  go_loopw [7, 8] (fun s i wr => ∃ k : Nat, k ≤ M ∧ i = .int .i64 k ∧ s = .int .i64 (inTo x S k) ∧ Ext w0 wr) (fun _ i _ => M - (intOf i).toNat)
  case atStart => exact ⟨0, Nat.zero_le _, rfl, rfl, Ext.rfl' _⟩
  case round =>
    obtain ⟨k, hk, rfl, rfl, hX⟩ := hrel
    have hE := hE0.trans' hX
    have g0 := (HB.out.ext hX).cellv 0 (v := .int .i64 (M : Int)) rfl
    have g1 := (HB.out.ext hX).cellv 1 (v := .slice a R.length c) rfl
    have hzr := (HB.out.ext hX).lt
    by_cases hlt : k < M
    case pos =>
      obtain ⟨b1, o1, rfl, hb1, hc1⟩ := hx.ext hE k (by omega)
      obtain ⟨b2, o2, rfl, hb2, hc2⟩ := hs.ext hE k (by omega)
      rw [gi_def] at hc1
      rw [gb_def] at hc2
      have bk := Hbd.out k (by omega)
      have xk := Hx3.out k (by omega)
      have Hs := Lib.hid (inTo_succ x S k)
      generalize inTo x S k = A at *
      generalize gi x k = B at *
      rcases Bool.eq_false_or_eq_true (gb S k) with hb | hb
      all_goals
        rw [hb] at hc2 Hs
        have Hs := Lib.hid (Hs.out)
        clear hb
        go_wp2_with fail
        go_roundw
        case rel => exact ⟨k + 1, by omega, by go_num, by rw [Hs.out]; rfl, hX⟩
        case measure => simp [intOf]; omega
    obtain rfl : k = M := by omega
    clear hk
    have Hle0 : Hid (inTo x S k = lessTo R x S k 0) := Lib.hid rfl
    have b0 := Hbe.out 0 (by omega)
    rw [Hle0.out]
    go_wp2_with fail
    go_loopw [7, 9] (fun s i wr => ∃ j : Nat, j ≤ R.length ∧ i = .int .i64 j ∧ s = .int .i64 (lessTo R x S k j) ∧ Ext w0 wr) (fun _ i _ => R.length - (intOf i).toNat)
    case atStart => exact ⟨0, Nat.zero_le _, rfl, rfl, hX⟩
    case round =>
      obtain ⟨j, hj, rfl, rfl, hX⟩ := hrel
      have hE := hE0.trans' hX
      clear g0 g1 hzr
      have g0 := (HB.out.ext hX).cellv 0 (v := .int .i64 (k : Int)) rfl
      have g1 := (HB.out.ext hX).cellv 1 (v := .slice a R.length c) rfl
      have hzr := (HB.out.ext hX).lt
      by_cases hlt : j < R.length
      case neg =>
        obtain rfl : j = R.length := by omega
        have HR : Hid (decide (0 < lessTo R x S k R.length) = damB k R x S) := Lib.hid rfl
        have bj := Hbe.out R.length (Nat.le_refl _)
        generalize lessTo R x S k R.length = A at *
        go_wp2_with fail
        go_ret
        exact ⟨ret_bool HR.out, hE⟩
      obtain ⟨b, off, rfl, hb, c1, c2', c3, c4⟩ := hl.ext hE j hlt
      have bj := Hbe.out j hj
      have bj2 := Hbe.out (j + 1) (by omega)
      have d1 := Hfr.out j hlt
      have d2 := Hto.out j hlt
      have d3 := Hwd.out j hlt
      have Hs : Hid (lessTo R x S k (j + 1) = if gb S R[j].fr.toNat && !gb S R[j].to.toNat then lessTo R x S k j - R[j].wd else lessTo R x S k j) := Lib.hid (by rw [lessTo, rdK_at hlt])
      generalize R[j].fr = fr at *
      generalize R[j].to = tt at *
      generalize R[j].wd = wd at *
      generalize lessTo R x S k j = A at *
      obtain ⟨p, rfl⟩ := Int.eq_ofNat_of_zero_le d1.1
      obtain ⟨q, rfl⟩ := Int.eq_ofNat_of_zero_le d2.1
      rw [Int.toNat_natCast, Int.toNat_natCast] at Hs
      obtain ⟨b2, o2, rfl, hb2, hc2⟩ := hs.ext hE p (by omega)
      obtain ⟨b3, o3, he3, hb3, hc3⟩ := hs.ext hE q (by omega)
      simp only [Option.some.injEq, Addr.mk.injEq, and_true] at he3
      obtain ⟨rfl, rfl⟩ := he3
      rw [gb_def] at hc2 hc3
      rcases Bool.eq_false_or_eq_true (gb S p) with e1 | e1 <;> rcases Bool.eq_false_or_eq_true (gb S q) with e2 | e2
      all_goals
        rw [e1] at hc2 Hs
        rw [e2] at hc3 Hs
        clear e1 e2
        go_wp2_with fail
        go_roundw
        case rel => exact ⟨j + 1, by omega, by go_num, by rw [Hs.out]; rfl, hX⟩
        case measure => simp [intOf]; omega
theorem madeB_one (n : Nat) : (madeCells (#[.bool false] : Array Value) (n * 1)).toList = (List.replicate n false).map .bool := by
  rw [List.map_replicate]
  exact made_one _ n
theorem info4 : (Try.prog.info? 4).map (fun i => (i.zero, i.size, i.bytes)) = some (some (.bool false), 1, 1) := by kernel_rfl
theorem and_bit : ∀ k : Nat, k < 64 → ∀ q : Nat, q < 6 → (bits BinOp.and IntKind.i64 ((k : Int) / 2 ^ q) 1 == 1) = k.testBit q := by decide +kernel
set_option maxRecDepth 20000 in
set_option maxHeartbeats 8000000 in
theorem f30_c (N : Int) (a : Option Addr) (n c : Nat) (R : List Road) (a2 : Option Addr) (n2 c2 : Nat) (x : List Int) (w : World) (hl : Roads w a R) (hn : R.length = n) (hlen : n ≤ 140737488355328) (hx : Ints w a2 x) (hxl : x.length = n2) (hlen2 : n2 ≤ 1000000) :
    Calls Try.prog 30 #[.agg #[.int .i64 N, .slice a n c], .slice a2 n2 c2] w fun e w' => e = .returned (.tuple #[.bool (okF N R x), .int .i64 (excErr N R x)]) ∧ Ext w w' := by
  subst hn hxl
  obtain ⟨i0, hi0⟩ := info_parts info4
  have Hi := Lib.hid hi0
  clear hi0
  have C25 := Lib.hid (fun W (hW : Ext w W) => f25_c N a R.length c R a2 x.length c2 x W (hl.ext hW) rfl hlen (hx.ext hW) rfl hlen2)
  have hE0 := ext_alloc w (.cells #[.int .i64 N, .slice a R.length c] 24)
  have HB := Lib.hid (BlkC.new w #[.int .i64 N, .slice a R.length c] 24)
  have hz := HB.out.lt
  have g0 := HB.out.cellv 0 (v := .int .i64 N) rfl
  have g1 := HB.out.cellv 1 (v := .slice a R.length c) rfl
  go_enter Try.func30, Try.ntmps30
  go_wp2_with fail
  generalize (w.alloc (.cells #[.int .i64 N, .slice a R.length c] 24)) = w0 at *
  refine (C25.out _ hE0).mono ?_
  rintro e w1 ⟨rfl, hX1⟩
  have hE1 := hE0.trans' hX1
  by_cases h0 : excErr N R x = 0
  case neg =>
    have hb : (excErr N R x != 0) = true := by simp [h0]
    have HC : Hid (okF N R x = false) := Lib.hid (by unfold okF; simp [h0])
    clear h0 C25
    generalize hEE : excErr N R x = E at *
    have HEE := Lib.hid hEE
    clear hEE
    go_wp2_with fail
    go_ret2
    rw [HC.out, HEE.out]
    exact ⟨rfl, hE1⟩
  obtain ⟨M, e1, h2, h3, h4, h5⟩ := exc_nat h0
  subst e1
  have HEE := Lib.hid h0
  have HF := Lib.hid (free_ok h0)
  have H69 := Lib.hid (fun W (hW : Ext w W) b (S : List Bool) (hS : Bools W (some ⟨b, 0, none⟩) S) (hSl : S.length = M) => f69_c M a R.length c R a2 x.length c2 x (some ⟨b, 0, none⟩) M M S W (hl.ext hW) rfl (hx.ext hW) rfl hS hSl h0 hSl)
  rw [h0]
  clear g0 g1 C25 h0 h2 h3
  have hpow : 2 ^ M ≤ 64 ∧ 1 ≤ 2 ^ M := ⟨Nat.le_trans (Nat.pow_le_pow_right (by omega) h5) (by decide), Nat.one_le_two_pow⟩
  have g0 := (HB.out.ext hX1).cellv 0 (v := .int .i64 (M : Int)) rfl
  have hzr := (HB.out.ext hX1).lt
  go_wp2_with fail
  go_loopw [7] (fun i wr => ∃ k : Nat, k ≤ 2 ^ M ∧ i = .int .i64 k ∧ Hid (freeTo M R x k = true) ∧ Ext w0 wr) (fun i _ => 2 ^ M - (intOf i).toNat)
  case atStart => exact ⟨0, Nat.zero_le _, rfl, Lib.hid (by simp [freeTo]), hX1⟩
  case round =>
    obtain ⟨k, hk, rfl, HK, hX⟩ := hrel
    have hE := hE0.trans' hX
    clear g0 hzr
    have g0 := (HB.out.ext hX).cellv 0 (v := .int .i64 (M : Int)) rfl
    have hzr := (HB.out.ext hX).lt
    have hw : wrap64 ((2 : Int) ^ M) = ((2 ^ M : Nat) : Int) := by
      have e : ((2 : Int) ^ M) = ((2 ^ M : Nat) : Int) := by simp
      rw [e]
      unfold wrap64
      omega
    by_cases hlt : k < 2 ^ M
    case neg =>
      have hk2 : k = 2 ^ M := by omega
      have HO : Hid (okF (M : Int) R x = true) := Lib.hid (by rw [← HF.out, ← hk2]; exact HK.out)
      have hd : decide ((k : Int) < wrap64 ((2 : Int) ^ M)) = false := by rw [hw]; exact decide_eq_false (by omega)
      clear hw hk2 HK HF
      go_wp2_with fail
      go_ret2
      rw [HO.out, HEE.out]
      exact ⟨rfl, hE⟩
    have hd : decide ((k : Int) < wrap64 ((2 : Int) ^ M)) = true := by rw [hw]; exact decide_eq_true (by omega)
    clear hw
    generalize hP : 2 ^ M = P at *
    have HP := Lib.hid hP
    clear hP
    generalize hP' : wrap64 ((2 : Int) ^ M) = P' at *
    have HP' := Lib.hid hP'
    clear hP'
    obtain ⟨wo, rfl⟩ : ∃ wo : World, wo = wr := ⟨_, rfl⟩
    rw [← HP'.out] at hd
    go_wp2_with (at_make; refine wpList_make_full _ rfl (.tmp 25) (.tmp 25) 73 rfl wo.heap.size 4 i0 (.bool false) 1 Try.underlying73 Hi.out.1 Hi.out.2.1 Hi.out.2.2.1 .i64 .i64 M M M rfl rfl rfl rfl (by rw [Hi.out.2.2.2]; omega) (by unfold maxLen; omega) (Nat.le_refl _) ?_; intro w2 hrow hgrow; have hX2 : Ext wo w2 := (Below.refl _ wo).grown hgrow (Nat.le_refl _) (by simp); have HG0 := Lib.hid hrow; have g0w := (HB.out.ext (hX.trans' hX2)).cellv 0 (v := .int .i64 (M : Int)) rfl; have hzw := (HB.out.ext (hX.trans' hX2)).lt; clear hrow hgrow)
    rw [show (Value.bool false).cells = #[.bool false] from rfl, madeB_one] at HG0
    have HG : Hid (OwnB w2 wo.heap.size wo.heap.size M (bitsTo M k 0)) := Lib.hid (by rw [bitsTo_zero]; exact HG0.out)
    have hX2r := hX.trans' hX2
    clear HG0 g0 hzr g0w hzw
    go_wp2_with fail
    go_loopw [9] (fun i wr => ∃ q : Nat, q ≤ M ∧ i = .int .i64 q ∧ Ext w0 wr ∧ Ext wo wr ∧ Hid (OwnB wr wo.heap.size wo.heap.size M (bitsTo M k q))) (fun i _ => M - (intOf i).toNat)
    case atStart => exact ⟨0, Nat.zero_le _, rfl, hX2r, hX2, HG⟩
    case round =>
      obtain ⟨q, hq, rfl, hX3, hY3, HG⟩ := hrel
      have hE3 := hE0.trans' hX3
      have g0 := (HB.out.ext hX3).cellv 0 (v := .int .i64 (M : Int)) rfl
      have hzr := (HB.out.ext hX3).lt
      have hsS := HG.out.slot
      by_cases hlq : q < M
      case pos =>
        have hfz := HG.out.froz q
        have hll : (bitsTo M k q).length = M := bitsTo_length M k q
        have l9 := HG.out.cell (i := q) (by rw [hll]; exact hlq)
        have HSt : Hid (∀ b : Bool, b = k.testBit q → OwnB (wr.setCell ⟨wo.heap.size, q, none⟩ (.bool b)) wo.heap.size wo.heap.size M (bitsTo M k (q + 1))) := Lib.hid (fun b hb => by subst hb; rw [← bitsTo_set]; exact HG.out.store q _)
        clear hll
        go_wp2_with fail
        have hbit := and_bit k (by omega) q (by omega)
        refine ⟨⟨q + 1, by omega, by go_num, hX3.setCell (p := ⟨wo.heap.size, q, none⟩) hX.size _, hY3.setCell (p := ⟨wo.heap.size, q, none⟩) (Nat.le_refl _) _, Lib.hid (HSt.out _ hbit)⟩, by simp [intOf]; omega⟩
      obtain rfl : q = M := by omega
      have g1 := (HB.out.ext hX3).cellv 1 (v := .slice a R.length c) rfl
      have C69 := Lib.hid (H69.out wr hE3 wo.heap.size _ HG.out.bools (bitsTo_length _ _ _))
      have HKs := Lib.hid (freeTo_succ q R x k)
      have HN := Lib.hid (fun h : damB q R x (bitsTo q k q) = true => (show okF (q : Int) R x = false from by
        cases ho : okF (q : Int) R x with
        | false => rfl
        | true =>
          rw [ho] at HF
          have h3 := List.all_eq_true.1 HF.out k (List.mem_range.2 hlt)
          rw [h] at h3; simp at h3))
      clear H69 HG hd HP HP'
      generalize damB q R x (bitsTo q k q) = D at *
      go_wp2_with fail
      refine C69.out.mono ?_
      clear C69
      rintro e w5 ⟨rfl, hX5⟩
      rcases Bool.eq_false_or_eq_true D with hD | hD
      · have HO := Lib.hid (HN.out hD)
        rw [hD]
        clear HN HKs
        go_wp2_with fail
        go_ret2
        rw [HO.out, HEE.out]
        exact ⟨rfl, hE3.trans' hX5⟩
      · rw [hD]
        go_wp2_with fail
        go_roundw
        case rel => exact ⟨k + 1, by omega, by go_num, Lib.hid (by rw [HKs.out, hD, HK.out]; rfl), hX3.trans' hX5⟩
        case measure => simp [intOf]; omega
end Go.Proofs.Ytbejgbflipoboaa
