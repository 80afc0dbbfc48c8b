/- Contracts of roads: Turn. -/
import Derived.Test.YtbejgbflipoboaaT31
import Derived.Test.YtbejgbflipoboaaT24
namespace Go.Proofs.Ytbejgbflipoboaa
open Go.RowKit
attribute [local go_sem] GW.cell
theorem flow_small {N : Int} {R : List Road} {y x : List Int} (h : flowErr N R y x = 0) (j : Nat) : -1000 ≤ gi x j ∧ gi x j ≤ 1000 := by
  obtain ⟨h1, h2⟩ := flowB_ok (flowErr_ok h).2.1
  have hok := netErr_ok (excErr_ok (flowErr_ok h).1).1
  by_cases hj : j < R.length
  · have h3 := h2 j hj
    have h4 := hok.wd j hj
    rw [rdK_at hj] at h3
    omega
  · rw [gi_out (by omega)]; omega
theorem turnF_one {f : List Int} {s : Int} (j : Nat) : gi f j - 1 ≤ gi (turnF f s) j ∧ gi (turnF f s) j ≤ gi f j + 1 := by
  unfold turnF
  by_cases hk : stepNo s < f.length
  · split <;> rw [gi_addAt hk] <;> split <;> omega
  · have e : ∀ d, addAt f (stepNo s) d = f := fun d => by unfold addAt; rw [List.set_eq_of_length_le (by omega)]
    split <;> rw [e] <;> omega
theorem turns_bd {x p : List Int} (h : ∀ j, -1000 ≤ gi x j ∧ gi x j ≤ 1000) : ∀ q : Nat, q ≤ p.length → ∀ j, -1000 - (q : Int) ≤ gi (turnsTo x p q) j ∧ gi (turnsTo x p q) j ≤ 1000 + q
  | 0, _, j => by have := h j; show _ ≤ gi x j ∧ gi x j ≤ _; omega
  | q + 1, hq, j => by
    have ih := turns_bd (p := p) h q (by omega) j
    rw [turnsTo_succ (f := x) (c := p) (n := q) (by omega)]
    have := turnF_one (f := turnsTo x p q) (s := gi p q) j
    omega
set_option maxRecDepth 20000 in
set_option maxHeartbeats 8000000 in
theorem f47_c (N : Int) (a : Option Addr) (n c : Nat) (R : List Road) (a1 : Option Addr) (n1 c1 : Nat) (y : List Int) (a2 : Option Addr) (n2 c2 : Nat) (x : List Int) (a3 : Option Addr) (n3 c3 : Nat) (p : List Int) (w : World) (hl : Roads w a R) (hn : R.length = n) (hlen : n ≤ 140737488355328) (hy : Ints w a1 y) (hn1 : y.length = n1) (hlen1 : n1 ≤ 1000000) (hx : Ints w a2 x) (hn2 : x.length = n2) (hlen2 : n2 ≤ 1000000) (hp : Ints w a3 p) (hn3 : p.length = n3) (hlen3 : n3 ≤ 1000000) :
    Calls Try.prog 47 #[.agg #[.int .i64 N, .slice a n c], .slice a1 n1 c1, .slice a2 n2 c2, .slice a3 n3 c3] w (RetInts (turnV N R y x p) (rndErr N R y x p) w) := by
  subst hn hn1 hn2 hn3
  have hE0 := ext_alloc w (.cells #[.int .i64 N, .slice a R.length c] 24)
  have HB := Lib.hid (BlkC.new w #[.int .i64 N, .slice a R.length c] 24)
  have hz := HB.out.lt
  have g0 := HB.out.cellv 0 (v := .int .i64 N) rfl
  have g1 := HB.out.cellv 1 (v := .slice a R.length c) rfl
  go_enter Try.func47, Try.ntmps47
  go_wp2_with fail
  generalize (w.alloc (.cells #[.int .i64 N, .slice a R.length c] 24)) = w0 at *
  refine (f46_c N a R.length c R a1 y.length c1 y a2 x.length c2 x a3 p.length c3 p _ (hl.ext hE0) rfl hlen (hy.ext hE0) rfl hlen1 (hx.ext hE0) rfl hlen2 (hp.ext hE0) rfl hlen3).mono ?_
  rintro e w1 ⟨rfl, hX1⟩
  have hE1 := hE0.trans' hX1
  generalize rndV N R y x p = V at *
  by_cases h0 : rndErr N R y x p = 0
  case neg =>
    have hb : (rndErr N R y x p != 0) = true := by simp [h0]
    have HR : Hid (RetInts (turnV N R y x p) (rndErr N R y x p) w (.returned (.tuple #[.slice none 0 0, .int .i64 (rndErr N R y x p)])) w1) := Lib.hid (by
      rw [turnV_no h0]; exact retInts_nil hE1)
    clear h0
    generalize rndErr N R y x p = E at *
    go_wp2_with fail
    go_ret2
    exact HR.out
  obtain ⟨k1, k2, k3, k4, k5⟩ := rndErr_ok h0
  have HTv := Lib.hid (turnV_yes h0)
  have HH0 := Lib.hid h0
  obtain ⟨hle, h12⟩ : x.length = R.length ∧ R.length ≤ 12 := by
    obtain ⟨M, rfl, _, k3, _, k5, _⟩ := flow_right k1
    exact ⟨k5.1, k3.r12⟩
  have Hok : Hid (NetOk N R) := Lib.hid (netErr_ok (excErr_ok (flow_exc0 k1)).1)
  have Hfl : Hid (∀ j, -1000 ≤ gi x j ∧ gi x j ≤ 1000) := Lib.hid (fun j => flow_small k1 j)
  have HIn : Hid (∀ j, j < p.length → StepIn R.length (gi p j)) := Lib.hid (fun j hj => k2 _ (by rw [gi_at hj]; exact List.getElem_mem _))
  have Hbd : Hid (∀ q, q ≤ p.length → ∀ j, -1000 - (q : Int) ≤ gi (turnsTo x p q) j ∧ gi (turnsTo x p q) j ≤ 1000 + q) := Lib.hid (fun q hq j => turns_bd Hfl.out q hq j)
  have Hsu : Hid (∀ q, q < p.length → turnsTo x p (q + 1) = turnF (turnsTo x p q) (gi p q)) := Lib.hid (fun q hq => turnsTo_succ hq)
  have Htl : Hid (∀ q, (turnsTo x p q).length = x.length) := Lib.hid (fun q => turnsTo_length x p q)
  have Ht0 : Hid (turnsTo x p 0 = x) := Lib.hid rfl
  have hR1 : 1 ≤ R.length := by have := HIn.out 0 (by omega); unfold StepIn at this; omega
  have HLe := Lib.hid hle
  have hx1 : 0 < x.length := by omega
  have hx12 : x.length ≤ 12 := by omega
  have Hp2 := Lib.hid hp
  rw [h0]
  clear h0 k1 k2 k5 hle
  obtain ⟨b2, o2, rfl, _, _⟩ := hx 0 hx1
  go_wp2_with fail
  refine (f81_c b2 o2 x.length c2 x _ (hx.ext hE1) rfl hx1 (by omega)).mono ?_
  rintro e w2 ⟨g, cap, rfl, hO2, hX2⟩
  have hE2 := hE1.trans' hX2
  have HO0 : Hid (OwnG w2 3 w1.heap.size g x.length cap (turnsTo x p 0)) := Lib.hid (by rw [Ht0.out]; exact hO2)
  have HX2 := Lib.hid hX2
  clear hO2
  go_wp2_with fail
  go_loopw [30] (fun i wr => ∃ q : Nat, q ≤ p.length ∧ i = .int .i64 q ∧ Ext w1 wr ∧ Hid (OwnG wr 3 w1.heap.size g x.length cap (turnsTo x p q))) (fun i _ => p.length - (intOf i).toNat)
  case atStart => exact ⟨0, Nat.zero_le _, rfl, HX2.out, HO0⟩
  case round =>
    obtain ⟨q, hq, rfl, hX3, HO⟩ := hrel
    have hE3 := hE1.trans' hX3
    by_cases hlq : q < p.length
    case neg =>
      obtain rfl : q = p.length := by omega
      have hz := HO.out.slot
      have HR : Hid (RetInts (turnV N R y x p) (rndErr N R y x p) w (.returned (.tuple #[.slice (some ⟨g, 0, none⟩) x.length cap, .int .i64 0])) wr) := Lib.hid (by
        rw [HTv.out, HH0.out]
        exact ⟨some ⟨g, 0, none⟩, cap, by rw [Htl.out], HO.out.ints, hE3⟩)
      go_wp2_with fail
      go_ret2
      exact HR.out
    obtain ⟨b6, o6, e6, hb6, hc6⟩ := (Hp2.out.ext hE3) q hlq
    subst e6
    rw [gi_def] at hc6
    have hs := HIn.out q hlq
    have Hs1 := Lib.hid (Hsu.out q hlq)
    have hvb := Hbd.out q (by omega) (stepNo (gi p q))
    have hgw := HO.out.slot
    have C82 := Lib.hid (f82_c (gi p q) 3 w1.heap.size g x.length cap (turnsTo x p q) wr HO.out (by rw [HLe.out]; exact hs) (by omega) (by omega))
    clear hs hvb
    generalize turnsTo x p q = F at *
    generalize gi p q = s at *
    go_wp2_with fail
    refine C82.out.mono ?_
    rintro e w4 ⟨rfl, hT⟩
    have HO4 := Lib.hid (hT.own HO.out)
    have hX4 := hT.ext hX3 hgw.2.2
    clear hT C82
    go_wp2_with fail
    go_roundw
    case rel => exact ⟨q + 1, by omega, by go_num, hX4, by rw [Hs1.out]; exact HO4⟩
    case measure => simp [intOf]; omega
set_option maxRecDepth 20000 in
set_option maxHeartbeats 8000000 in
theorem f54_c (N : Int) (a : Option Addr) (n c : Nat) (R : List Road) (a1 : Option Addr) (n1 c1 : Nat) (y : List Int) (a2 : Option Addr) (n2 c2 : Nat) (x : List Int) (a3 : Option Addr) (n3 c3 : Nat) (p : List Int) (w : World) (hl : Roads w a R) (hn : R.length = n) (hlen : n ≤ 140737488355328) (hy : Ints w a1 y) (hn1 : y.length = n1) (hlen1 : n1 ≤ 1000000) (hx : Ints w a2 x) (hn2 : x.length = n2) (hlen2 : n2 ≤ 1000000) (hp : Ints w a3 p) (hn3 : p.length = n3) (hlen3 : n3 ≤ 1000000) :
    Calls Try.prog 54 #[.agg #[.int .i64 N, .slice a n c], .slice a1 n1 c1, .slice a2 n2 c2, .slice a3 n3 c3] w (RetInts (turnV N R y x p) (rndErr N R y x p) w) := by
  subst hn hn1 hn2 hn3
  have hE0 := ext_alloc w (.cells #[.int .i64 N, .slice a R.length c] 24)
  have HB := Lib.hid (BlkC.new w #[.int .i64 N, .slice a R.length c] 24)
  have hz := HB.out.lt
  have g0 := HB.out.cellv 0 (v := .int .i64 N) rfl
  have g1 := HB.out.cellv 1 (v := .slice a R.length c) rfl
  go_enter Try.func54, Try.ntmps54
  go_wp2_with fail
  generalize (w.alloc (.cells #[.int .i64 N, .slice a R.length c] 24)) = w0 at *
  refine (f50_c N a R.length c R a1 y.length c1 y a2 x.length c2 x a3 p.length c3 p _ (hl.ext hE0) rfl hlen (hy.ext hE0) rfl hlen1 (hx.ext hE0) rfl hlen2 (hp.ext hE0) rfl hlen3).mono ?_
  rintro e w1 ⟨rfl, hX1⟩
  have hE1 := hE0.trans' hX1
  generalize rndV N R y x p = V at *
  by_cases h0 : rndErr N R y x p = 0
  case neg =>
    have hb : (rndErr N R y x p != 0) = true := by simp [h0]
    have HR : Hid (RetInts (turnV N R y x p) (rndErr N R y x p) w (.returned (.tuple #[.slice none 0 0, .int .i64 (rndErr N R y x p)])) w1) := Lib.hid (by
      rw [turnV_no h0]; exact retInts_nil hE1)
    clear h0
    generalize rndErr N R y x p = E at *
    go_wp2_with fail
    go_ret2
    exact HR.out
  obtain ⟨k1, k2, k3, k4, k5⟩ := rndErr_ok h0
  have HTv := Lib.hid (turnV_yes h0)
  have HH0 := Lib.hid h0
  obtain ⟨hle, h12⟩ : x.length = R.length ∧ R.length ≤ 12 := by
    obtain ⟨M, rfl, _, k3, _, k5, _⟩ := flow_right k1
    exact ⟨k5.1, k3.r12⟩
  have Hok : Hid (NetOk N R) := Lib.hid (netErr_ok (excErr_ok (flow_exc0 k1)).1)
  have Hfl : Hid (∀ j, -1000 ≤ gi x j ∧ gi x j ≤ 1000) := Lib.hid (fun j => flow_small k1 j)
  have HIn : Hid (∀ j, j < p.length → StepIn R.length (gi p j)) := Lib.hid (fun j hj => k2 _ (by rw [gi_at hj]; exact List.getElem_mem _))
  have Hbd : Hid (∀ q, q ≤ p.length → ∀ j, -1000 - (q : Int) ≤ gi (turnsTo x p q) j ∧ gi (turnsTo x p q) j ≤ 1000 + q) := Lib.hid (fun q hq j => turns_bd Hfl.out q hq j)
  have Hsu : Hid (∀ q, q < p.length → turnsTo x p (q + 1) = turnF (turnsTo x p q) (gi p q)) := Lib.hid (fun q hq => turnsTo_succ hq)
  have Htl : Hid (∀ q, (turnsTo x p q).length = x.length) := Lib.hid (fun q => turnsTo_length x p q)
  have Ht0 : Hid (turnsTo x p 0 = x) := Lib.hid rfl
  have hR1 : 1 ≤ R.length := by have := HIn.out 0 (by omega); unfold StepIn at this; omega
  have HLe := Lib.hid hle
  have hx1 : 0 < x.length := by omega
  have hx12 : x.length ≤ 12 := by omega
  have Hp2 := Lib.hid hp
  rw [h0]
  clear h0 k1 k2 k5 hle
  obtain ⟨b2, o2, rfl, _, _⟩ := hx 0 hx1
  obtain ⟨i0, hi0⟩ := info_parts info3
  have Hi := Lib.hid hi0
  clear hi0
  have Hxr := Lib.hid (reads_ints ((hx.ext hE1).ext (ext_alloc w1 (.cells #[] 3))))
  have Hrow := Lib.hid (row_empty w1 3 1)
  have hs1 := hX1.size
  go_wp2_with (at_builtin; refine wpList_append_any _ rfl (.tmp 27) (.tmp 28) 25 rfl w1.heap.size 3 i0 (.int .i64 0) 1 8 Try.underlying25 Hi.out.1 Hi.out.2.1 Hi.out.2.2.1 Hi.out.2.2.2 rfl (by omega) (.slice (some ⟨w1.heap.size, 0, none⟩) 0 0) 0 [] rfl Hrow.out _ (some ⟨b2, o2, none⟩) x.length c2 (x.map (.int .i64)) rfl Hxr.out ints_one (by unfold maxLen; omega) (by omega) (by simp) ?_; intro v3 w3 hown hgrow hat; have hX3 := ext_grow (ext_alloc _ _) Hrow.out (Nat.le_refl _) hgrow; rw [Nat.zero_add, List.nil_append] at hown; obtain ⟨g, cap, rfl, hg8, hg9⟩ := ownsRow_form hown hx1; have HO0 := Lib.hid hown; clear hown hgrow hat)
  have HO1 : Hid (OwnG w3 3 w1.heap.size g x.length cap (turnsTo x p 0)) := Lib.hid (by rw [Ht0.out]; exact HO0.out)
  clear HO0 Hxr Hrow hg8 hg9
  go_loopw [13] (fun i wr => ∃ q : Nat, q ≤ p.length ∧ i = .int .i64 q ∧ Ext w1 wr ∧ Hid (OwnG wr 3 w1.heap.size g x.length cap (turnsTo x p q))) (fun i _ => p.length - (intOf i).toNat)
  case atStart => exact ⟨0, Nat.zero_le _, rfl, hX3, HO1⟩
  case round =>
    obtain ⟨q, hq, rfl, hX4, HO⟩ := hrel
    have hE4 := hE1.trans' hX4
    have hY4 := hX1.trans' hX4
    by_cases hlq : q < p.length
    case neg =>
      obtain rfl : q = p.length := by omega
      have hz := HO.out.slot
      have HR : Hid (RetInts (turnV N R y x p) (rndErr N R y x p) w (.returned (.tuple #[.slice (some ⟨g, 0, none⟩) x.length cap, .int .i64 0])) wr) := Lib.hid (by
        rw [HTv.out, HH0.out]
        exact ⟨some ⟨g, 0, none⟩, cap, by rw [Htl.out], HO.out.ints, hE4⟩)
      go_wp2_with fail
      go_ret2
      exact HR.out
    obtain ⟨b6, o6, e6, hb6, hc6⟩ := Hp2.out q hlq
    subst e6
    rw [gi_def] at hc6
    have hs := HIn.out q hlq
    have hnl := stepNo_lt hs
    have Hs1 : Hid (turnsTo x p (q + 1) = (turnsTo x p q).set (stepNo (gi p q)) (gi (turnsTo x p q) (stepNo (gi p q)) + sg (gi p q))) := Lib.hid (by
      rw [Hsu.out q hlq]; unfold turnF addAt sg; split <;> rfl)
    have hsg : -1 ≤ sg (gi p q) ∧ sg (gi p q) ≤ 1 := by unfold sg; split <;> omega
    have hvb := Hbd.out q (by omega) (stepNo (gi p q))
    have hgw := HO.out.slot
    have hll := Htl.out q
    have Hll : Hid (stepNo (gi p q) < (turnsTo x p q).length) := Lib.hid (by rw [Htl.out, HLe.out]; exact hnl)
    have hnx : stepNo (gi p q) < x.length := by rw [HLe.out]; exact hnl
    have C1 := Lib.hid (fun W (hE : Ext w W) => f84_c (gi p q) N a R.length c R (some ⟨b2, o2, none⟩) x.length c2 x W (hl.ext hE) rfl (hx.ext hE) rfl HLe.out Hok.out hs)
    clear hs hll
    generalize turnsTo x p q = F at *
    generalize gi p q = s at *
    generalize stFr R s = fs at *
    generalize stTo R s = ts at *
    generalize stLn R s = ls at *
    generalize stOk R x s = oks at *
    generalize stepNo s = ns at *
    generalize sg s = ss at *
    go_wp2_with fail
    refine FillN.wp_region_fill (A := ?Aua) 56 [true, true, true, true, true, true, true, true, true, true, false, false, true] [⟨10, 14, #[.int .i64 0, .int .i64 0, .int .i64 0, .int .i64 0, .int .i64 0], 84, 11, #[.int .i64 fs, .int .i64 ts, .int .i64 ls, .int .i64 (ns : Int), .int .i64 ss]⟩] (by kernel_rfl) (by kernel_rfl) rfl ?hmka ?hwalka ?hfla ?htaila
    case hmka =>
      intro m hm o ho ρ W
      obtain rfl := List.mem_singleton.1 hm
      obtain rfl := Option.some.inj ho
      exact run_alloc_arc ρ W _ _ _ _
    case hwalka =>
      intro W1 hW1
      have hEw := hE4.trans' hW1
      have hYw := hY4.trans' hW1
      have C84 := Lib.hid (fun x' : GW W1 => C1.out x'.world (hEw.trans' x'.ext))
      have g0 := (HB.out.ext hYw).cellv 0 (v := .int .i64 N) rfl
      have g1 := (HB.out.ext hYw).cellv 1 (v := .slice a R.length c) rfl
      have hzr := (HB.out.ext hYw).lt
      have cc := (hEw.cell' hb6).trans hc6
      have hbw := Nat.lt_of_lt_of_le hb6 hEw.size
      simp only [FillN.pickQ]
      repeat (go_big_quiet_step ((go_at_call 84; exact quiet_ext (C84.out _))))
      refine wpQuiet_nil ?_
      rfl
    case hfla =>
      intro m hm o ho aa W B h1 h2 h3
      obtain rfl := List.mem_singleton.1 hm
      obtain rfl := Option.some.inj ho
      exact fill_store_arc h1 ((h2 44 (by simp [Oper.looksAt, Op.operands]) (show (44 : Nat) ≠ 14 by decide)).trans rfl) h3
    case htaila =>
      intro bs W7 hWa hheld _
      have Pa : BlkC W7 (bs 10) _ 84 := (hheld _ (.head _)).2
      have hBa : wr.heap.size ≤ bs 10 := (hheld _ (.head _)).1
      clear hheld
      simp only [FillN.putAll, FillN.ptrV]
      generalize bs 10 = B1 at *
      simp only [Act.put, List.setIfInBounds_toArray, List.set_cons_zero, List.set_cons_succ]

      have HP7 := Lib.hid Pa
      have hX7 := hX4.trans' hWa
      have HO7 := Lib.hid (HO.out.ext hWa)
      have q3 := Pa.cellv 3 (v := .int .i64 (ns : Int)) rfl
      have q4 := Pa.cellv 4 (v := .int .i64 ss) rfl
      have hlt7 := Pa.lt
      have hgw7 := HO7.out.slot
      have cF := HO7.out.cell Hll.out
      rw [gi_def] at cF
      clear Pa C1 hc6
      generalize hFv : gi F ns = Fv at *
      have HFv := Lib.hid hFv
      clear hFv
      go_wp2_with fail
      refine wp_region_ext_tail 9 (by kernel_rfl) (by kernel_rfl) ?_
      simp only [List.take_succ_cons, List.take_zero, List.drop_succ_cons, List.drop_zero]
      repeat (go_big_quiet_step (fail))
      refine wpQuiet_nil ?_
      intro w8 hX8
      have HO8 := Lib.hid (HO7.out.ext hX8)
      have hgw8 := HO8.out.slot
      have cF8 := HO8.out.cell Hll.out
      rw [gi_def, HFv.out] at cF8
      have fF8 := HO8.out.froz ns
      have HO9 := Lib.hid (HO8.out.store ns (Fv + ss))
      have hX9 : Ext w1 _ := (hX7.trans' hX8).setCell (p := ⟨g, ns, none⟩) hgw.2.2 (.int .i64 (Fv + ss))
      clear cF q3 q4
      go_wp2_with fail
      go_roundw
      case rel => exact ⟨q + 1, by omega, by go_num, hX9, by rw [Hs1.out]; exact HO9⟩
      case measure => simp [intOf]; omega
end Go.Proofs.Ytbejgbflipoboaa
