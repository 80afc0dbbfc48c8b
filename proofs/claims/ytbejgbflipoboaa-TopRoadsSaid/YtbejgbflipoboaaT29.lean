/- Contracts of roads: CheckRound of the reference. -/
import Derived.Test.YtbejgbflipoboaaT28
import Derived.Test.YtbejgbflipoboaaP3
import Derived.Test.YtbejgbflipoboaaP1
namespace Go.Proofs.Ytbejgbflipoboaa
open Go.RowKit
attribute [local go_sem] GW.cell
theorem run_alloc_arc (ρ : Operand → Value) (W : World) (d : Option Tmp) (ty : TypeId) (pos : String) (af : Array Edge) : (execOp ρ ⟨d, .alloc 84, ty, pos, af, none⟩).run Try.prog W = .ok (.value (FillN.ptrV W.heap.size)) (W.alloc (.cells #[.int .i64 0, .int .i64 0, .int .i64 0, .int .i64 0, .int .i64 0] 84)) := by
  simp [go_sem, FillN.ptrV]
theorem fill_store_arc {a : Act} {W : World} {B : Nat} {s u : Tmp} {ty : TypeId} {pos : String} {af : Array Edge} {n0 n1 n2 n3 n4 : Int} (h1 : a.tmps[s]? = some (FillN.ptrV B)) (h2 : a.tmps[u]? = some (.agg #[.int .i64 n0, .int .i64 n1, .int .i64 n2, .int .i64 n3, .int .i64 n4])) (h3 : W.heap[B]? = some (.cells #[.int .i64 0, .int .i64 0, .int .i64 0, .int .i64 0, .int .i64 0] 84)) :
    ∃ W', (execOp a.eval ⟨none, .store 84 (.tmp s) (.tmp u), ty, pos, af, none⟩).run Try.prog W = .ok .skip W' ∧ W'.heap[B]? = some (.cells #[.int .i64 n0, .int .i64 n1, .int .i64 n2, .int .i64 n3, .int .i64 n4] 84) ∧ (∀ B', B' ≠ B → W'.heap[B']? = W.heap[B']?) ∧ ∀ w, Ext w W → w.heap.size ≤ B → Ext w W' := by
  have hq : BlkC W B #[.int .i64 0, .int .i64 0, .int .i64 0, .int .i64 0, .int .i64 0] 84 := h3
  have e1 : a.tmps.getD s undef = .pointer (some ⟨B, 0, none⟩) := by rw [Array.getD_eq_getD_getElem?, h1]; rfl
  have e2 : a.tmps.getD u undef = .agg #[.int .i64 n0, .int .i64 n1, .int .i64 n2, .int .i64 n3, .int .i64 n4] := by rw [Array.getD_eq_getD_getElem?, h2]; rfl
  have hr := ((((hq.set 0 (.int .i64 n0)).set 1 (.int .i64 n1)).set 2 (.int .i64 n2)).set 3 (.int .i64 n3)).set 4 (.int .i64 n4)
  refine ⟨((((W.setCell ⟨B, 0, none⟩ (.int .i64 n0)).setCell ⟨B, 1, none⟩ (.int .i64 n1)).setCell ⟨B, 2, none⟩ (.int .i64 n2)).setCell ⟨B, 3, none⟩ (.int .i64 n3)).setCell ⟨B, 4, none⟩ (.int .i64 n4), ?_, (by have h9 : BlkC _ B #[.int .i64 n0, .int .i64 n1, .int .i64 n2, .int .i64 n3, .int .i64 n4] 84 := (by simpa using hr); exact h9), fun B' hne => ?_, fun w hE hb => ((((hE.setCell (p := ⟨B, 0, none⟩) hb _).setCell (p := ⟨B, 1, none⟩) hb _).setCell (p := ⟨B, 2, none⟩) hb _).setCell (p := ⟨B, 3, none⟩) hb _).setCell (p := ⟨B, 4, none⟩) hb _⟩
  · have q0 := hq.cellv 0 (v := .int .i64 0) rfl
    have q1 := (hq.set 0 (.int .i64 n0)).cellv 1 (v := .int .i64 0) rfl
    have q2 := ((hq.set 0 (.int .i64 n0)).set 1 (.int .i64 n1)).cellv 2 (v := .int .i64 0) rfl
    have q3 := (((hq.set 0 (.int .i64 n0)).set 1 (.int .i64 n1)).set 2 (.int .i64 n2)).cellv 3 (v := .int .i64 0) rfl
    have q4 := ((((hq.set 0 (.int .i64 n0)).set 1 (.int .i64 n1)).set 2 (.int .i64 n2)).set 3 (.int .i64 n3)).cellv 4 (v := .int .i64 0) rfl
    have f0 := fun i => hq.frozen i
    have f1 := fun i => (hq.set 0 (.int .i64 n0)).frozen i
    have f2 := fun i => ((hq.set 0 (.int .i64 n0)).set 1 (.int .i64 n1)).frozen i
    have f3 := fun i => (((hq.set 0 (.int .i64 n0)).set 1 (.int .i64 n1)).set 2 (.int .i64 n2)).frozen i
    have f4 := fun i => ((((hq.set 0 (.int .i64 n0)).set 1 (.int .i64 n1)).set 2 (.int .i64 n2)).set 3 (.int .i64 n3)).frozen i
    simp [go_sem, Act.eval, e1, e2, q0, q1, q2, q3, q4, f0, f1, f2, f3, f4]
  · exact (Below.heap_setCell _ ⟨B, 4, none⟩ _ B' hne).trans ((Below.heap_setCell _ ⟨B, 3, none⟩ _ B' hne).trans ((Below.heap_setCell _ ⟨B, 2, none⟩ _ B' hne).trans ((Below.heap_setCell _ ⟨B, 1, none⟩ _ B' hne).trans (Below.heap_setCell _ ⟨B, 0, none⟩ _ B' hne))))
set_option maxRecDepth 20000 in
set_option maxHeartbeats 16000000 in
theorem f50_c (N : Int) (a : Option Addr) (n c : Nat) (R : List Road) (a1 : Option Addr) (n1 c1 : Nat) (y : List Int) (a2 : Option Addr) (n2 c2 : Nat) (x : List Int) (a3 : Option Addr) (n3 c3 : Nat) (p : List Int) (w : World) (hl : Roads w a R) (hn : R.length = n) (hlen : n ≤ 140737488355328) (hy : Ints w a1 y) (hn1 : y.length = n1) (hlen1 : n1 ≤ 1000000) (hx : Ints w a2 x) (hn2 : x.length = n2) (hlen2 : n2 ≤ 1000000) (hp : Ints w a3 p) (hn3 : p.length = n3) (hlen3 : n3 ≤ 1000000) :
    Calls Try.prog 50 #[.agg #[.int .i64 N, .slice a n c], .slice a1 n1 c1, .slice a2 n2 c2, .slice a3 n3 c3] w fun e w' => e = .returned (.tuple #[.int .i64 (rndV N R y x p), .int .i64 (rndErr N R y x p)]) ∧ Ext w w' := by
  subst hn hn1 hn2 hn3
  have hE0 := ext_alloc w (.cells #[.int .i64 N, .slice a R.length c] 24)
  have HB := Lib.hid (BlkC.new w #[.int .i64 N, .slice a R.length c] 24)
  have hz := HB.out.lt
  have g0 := HB.out.cellv 0 (v := .int .i64 N) rfl
  have g1 := HB.out.cellv 1 (v := .slice a R.length c) rfl
  go_enter Try.func50, Try.ntmps50
  go_wp2_with fail
  generalize (w.alloc (.cells #[.int .i64 N, .slice a R.length c] 24)) = w0 at *
  refine (f21_c N a R.length c R a1 y.length c1 y a2 x.length c2 x _ (hl.ext hE0) rfl hlen (hy.ext hE0) rfl hlen1 (hx.ext hE0) rfl hlen2).mono ?_
  rintro e w1 ⟨rfl, hX1⟩
  have hE1 := hE0.trans' hX1
  generalize flowV N R y x = V at *
  by_cases h0 : flowErr N R y x = 0
  case neg =>
    have hb : (flowErr N R y x != 0) = true := by simp [h0]
    have HR := Lib.hid (rndErr_flow (c := p) h0)
    have HV : Hid (rndV N R y x p = 0) := Lib.hid (rndV_no (by rw [HR.out]; exact h0))
    clear h0
    generalize flowErr N R y x = E at *
    go_wp2_with fail
    go_ret2
    exact ⟨ret_ii HV.out.symm HR.out.symm, hE1⟩
  obtain ⟨hle, h12⟩ : x.length = R.length ∧ R.length ≤ 12 := by
    obtain ⟨M, rfl, _, k3, _, k5, _⟩ := flow_right h0
    exact ⟨k5.1, k3.r12⟩
  have HLe := Lib.hid hle
  clear hle
  have Hok : Hid (NetOk N R) := Lib.hid (netErr_ok (excErr_ok (flow_exc0 h0)).1)
  have H0 := Lib.hid h0
  rw [h0]
  clear h0
  clear g0 g1 hz
  have g0 := (HB.out.ext hX1).cellv 0 (v := .int .i64 N) rfl
  have g1 := (HB.out.ext hX1).cellv 1 (v := .slice a R.length c) rfl
  have hz := (HB.out.ext hX1).lt
  go_wp2_with fail
  go_loopw [12] (fun i wr => ∃ k : Nat, k ≤ p.length ∧ i = .int .i64 k ∧ Ext w1 wr ∧ Hid (∀ j, j < k → stIn R.length (gi p j) = true)) (fun i _ => p.length - (intOf i).toNat)
  case atStart => exact ⟨0, Nat.zero_le _, rfl, Ext.rfl' _, Lib.hid (fun j hj => absurd hj (Nat.not_lt_zero j))⟩
  case round =>
    obtain ⟨k, hk, rfl, hX2, HK⟩ := hrel
    have hE2 := hE1.trans' hX2
    have hY2 := hX1.trans' hX2
    clear g0 g1 hz
    have g0 := (HB.out.ext hY2).cellv 0 (v := .int .i64 N) rfl
    have g1 := (HB.out.ext hY2).cellv 1 (v := .slice a R.length c) rfl
    have hz := (HB.out.ext hY2).lt
    by_cases hlk : k < p.length
    case pos =>
      obtain ⟨b5, o5, rfl, hb5, hc5⟩ := (hp.ext hE2) k hlk
      rw [gi_def] at hc5
      have Hno := Lib.hid (fun h => rndErr_4 (c := p) H0.out hlk h)
      have Hst : Hid (stIn R.length (gi p k) = (withinB (gi p k) (-(R.length : Int)) R.length && !decide (gi p k = 0))) := Lib.hid rfl
      have Hnx : Hid (stIn R.length (gi p k) = true → ∀ j, j < k + 1 → stIn R.length (gi p j) = true) := Lib.hid (fun hb j hj => by
          rcases Nat.lt_succ_iff_lt_or_eq.1 hj with h | rfl
          · exact HK.out j h
          · exact hb)
      generalize gi p k = s at *
      by_cases hs0 : s = 0
      case pos =>
        have hd : (s == 0) = true := by simp [hs0]
        have hS : stIn R.length s = false := by rw [Hst.out]; simp [hs0]
        clear hs0
        go_wp2_with fail
        refine wp_region_ext (by kernel_rfl) (by kernel_rfl) ?_
        repeat (go_big_quiet_step (fail))
        refine wpQuiet_nil ?_
        intro w6 hX6
        have HR := Lib.hid (Hno.out hS)
        have HV : Hid (rndV N R y x p = 0) := Lib.hid (rndV_no (by rw [HR.out]; omega))
        go_wp2_with fail
        go_ret2
        exact ⟨ret_ii HV.out.symm HR.out.symm, hE2.trans' hX6⟩
      have hd : (s == 0) = false := by simp [hs0]
      rw [decide_eq_false hs0, Bool.not_false, Bool.and_true] at Hst
      clear hs0
      rcases Bool.eq_false_or_eq_true (withinB s (-(R.length : Int)) R.length) with hb | hb
      case inr =>
        have hS : stIn R.length s = false := by rw [Hst.out]; exact hb
        go_wp2_with fail
        refine wp_region_ext (by kernel_rfl) (by kernel_rfl) ?_
        repeat (go_big_quiet_step ((go_at_call 65; exact quiet_same (f65_c _ _ _ _))))
        refine wpQuiet_nil ?_
        intro w6 hX6
        have HR := Lib.hid (Hno.out hS)
        have HV : Hid (rndV N R y x p = 0) := Lib.hid (rndV_no (by rw [HR.out]; omega))
        go_wp2_with fail
        go_ret2
        exact ⟨ret_ii HV.out.symm HR.out.symm, hE2.trans' hX6⟩
      have HN2 := Lib.hid (Hnx.out (by rw [Hst.out]; exact hb))
      clear Hnx Hno Hst
      go_wp2_with fail
      refine wp_region_ext (by kernel_rfl) (by kernel_rfl) ?_
      repeat (go_big_quiet_step ((go_at_call 65; exact quiet_same (f65_c _ _ _ _))))
      refine wpQuiet_nil ?_
      intro w6 hX6
      go_wp2_with fail
      go_roundw
      case rel => exact ⟨k + 1, by omega, by go_num, hX2.trans' hX6, HN2⟩
      case measure => simp [intOf]; omega
    obtain rfl : k = p.length := by omega
    by_cases hl1 : 1 ≤ p.length
    case neg =>
      have HR := Lib.hid (rndErr_len H0.out HK.out (by simp [withinB]; omega))
      have HV : Hid (rndV N R y x p = 0) := Lib.hid (rndV_no (by rw [HR.out]; omega))
      go_wp2_with fail
      go_ret2
      exact ⟨ret_ii HV.out.symm HR.out.symm, hE2⟩
    by_cases hl2 : p.length ≤ 12
    case neg =>
      have HR := Lib.hid (rndErr_len H0.out HK.out (by simp [withinB]; omega))
      have HV : Hid (rndV N R y x p = 0) := Lib.hid (rndV_no (by rw [HR.out]; omega))
      go_wp2_with fail
      go_ret2
      exact ⟨ret_ii HV.out.symm HR.out.symm, hE2⟩
    have Hwl : Hid (withinB p.length 1 12 = true) := Lib.hid (by simp [withinB]; omega)
    have HIn : Hid (∀ j, j < p.length → StepIn R.length (gi p j)) := Lib.hid (fun j hj => stIn_iff.1 (HK.out j hj))
    have Hbd := Lib.hid (fun k hk => lnTo_bd Hok.out HIn.out k hk)
    obtain ⟨wk, rfl⟩ : ∃ wk : World, wk = wr := ⟨_, rfl⟩
    go_wp2_with fail
    go_loopw [13, 14] (fun sm i wr => ∃ q : Nat, q ≤ p.length ∧ i = .int .i64 q ∧ sm = .int .i64 (lnTo R p q) ∧ Ext wk wr ∧ Hid (rndQTo R x p q = true)) (fun _ i _ => p.length - (intOf i).toNat)
    case atStart => exact ⟨0, Nat.zero_le _, rfl, rfl, Ext.rfl' _, Lib.hid rfl⟩
    case round =>
      obtain ⟨q, hq, rfl, rfl, hX3, HQ⟩ := hrel
      have hE3 := hE2.trans' hX3
      have hY3 := hY2.trans' hX3
      clear g0 g1 hz
      have g0 := (HB.out.ext hY3).cellv 0 (v := .int .i64 N) rfl
      have g1 := (HB.out.ext hY3).cellv 1 (v := .slice a R.length c) rfl
      have hz := (HB.out.ext hY3).lt
      by_cases hlq : q < p.length
      case neg =>
        obtain rfl : q = p.length := by omega
        have HR := Lib.hid (rndErr_yes H0.out HK.out Hwl.out (by rw [← rnd_same HIn.out]; exact HQ.out))
        have HV := Lib.hid (rndV_yes HR.out)
        clear HQ
        generalize lnTo R p p.length = Sm at *
        go_wp2_with fail
        go_ret2
        exact ⟨ret_ii HV.out.symm HR.out.symm, hE3⟩
      have hmod : ((q : Int) + 1).tmod (p.length : Int) = (((q + 1) % p.length : Nat) : Int) := by rw [Int.tmod_eq_emod_of_nonneg (by omega)]; simp
      have hrl : (q + 1) % p.length < p.length := Nat.mod_lt _ (by omega)
      have Herr := Lib.hid (fun h => rndQ_err (c := p) H0.out HK.out hlq h)
      have Hq1 := Lib.hid (fun h => rndQ_no1 (R := R) (f := x) (c := p) (i := q) h)
      have Hq2 := Lib.hid (fun h => rndQ_no2 (R := R) (f := x) (c := p) (i := q) h)
      have Hq3 := Lib.hid (fun h => rndQ_no3 (R := R) (f := x) (c := p) (i := q) h)
      have Hq4 := Lib.hid (fun h1 h2 h3 => rndQ_yes (R := R) (f := x) (c := p) (i := q) h1 h2 h3)
      have Hln := Lib.hid (lnTo_succ R p q)
      have hsb := Hbd.out q (by omega)
      generalize (q + 1) % p.length = r at *
      obtain ⟨b4, o4, rfl, hb4, hc4⟩ := hp q hlq
      obtain ⟨b5, o5, e5, hb5, hc5⟩ := hp r hrl
      simp only [Option.some.injEq, Addr.mk.injEq, and_true] at e5
      obtain ⟨rfl, rfl⟩ := e5
      rw [gi_def] at hc4 hc5
      have hs1 := HIn.out q hlq
      have ht1 := HIn.out r hrl
      have hlnb := stLn_bd Hok.out hs1
      have C1 := Lib.hid (fun W (hE : Ext w W) => f84_c (gi p q) N a R.length c R a2 x.length c2 x W (hl.ext hE) rfl (hx.ext hE) rfl HLe.out Hok.out hs1)
      have C2 := Lib.hid (fun W (hE : Ext w W) => f84_c (gi p r) N a R.length c R a2 x.length c2 x W (hl.ext hE) rfl (hx.ext hE) rfl HLe.out Hok.out ht1)
      clear hs1 ht1
      have Hp2 := Lib.hid hp
      generalize hs : gi p q = s at *
      have Hs := Lib.hid hs
      generalize ht : gi p r = t at *
      clear hs ht
      generalize stFr R s = fs at *
      generalize stTo R s = ts at *
      generalize stLn R s = ls at *
      generalize stOk R x s = oks at *
      generalize ((stepNo s : Nat) : Int) = ns at *
      generalize sg s = ss at *
      generalize stFr R t = ft at *
      generalize stTo R t = tt at *
      generalize stLn R t = lt at *
      generalize stOk R x t = okt at *
      generalize ((stepNo t : Nat) : Int) = nt at *
      generalize sg t = st at *
      generalize lnTo R p q = Sm at *
      go_wp2_with fail
      refine FillN.wp_region_fill (A := ?Aua) 134 [true, true, true, true, true, true, true, true, true, true, false, false, true] [⟨10, 15, #[.int .i64 0, .int .i64 0, .int .i64 0, .int .i64 0, .int .i64 0], 84, 11, #[.int .i64 fs, .int .i64 ts, .int .i64 ls, .int .i64 ns, .int .i64 ss]⟩] (by kernel_rfl) (by kernel_rfl) rfl ?hmka ?hwalka ?hfla ?htaila
      case hmka =>
        intro m hm o ho ρ W
        obtain rfl := List.mem_singleton.1 hm
        obtain rfl := Option.some.inj ho
        exact run_alloc_arc ρ W _ _ _ _
      case hwalka =>
        intro W1 hW1
        have hEw := hE3.trans' hW1
        have hYw := hY3.trans' hW1
        have C84 := Lib.hid (fun x' : GW W1 => C1.out x'.world (hEw.trans' x'.ext))
        have g0 := (HB.out.ext hYw).cellv 0 (v := .int .i64 N) rfl
        have g1 := (HB.out.ext hYw).cellv 1 (v := .slice a R.length c) rfl
        have hzr := (HB.out.ext hYw).lt
        have cc := (hEw.cell' hb4).trans hc4
        have hbw := Nat.lt_of_lt_of_le hb4 hEw.size
        simp only [FillN.pickQ]
        repeat (go_big_quiet_step ((go_at_call 84; exact quiet_ext (C84.out _))))
        refine wpQuiet_nil ?_
        rfl
      case hfla =>
        intro m hm o ho aa W B h1 h2 h3
        obtain rfl := List.mem_singleton.1 hm
        obtain rfl := Option.some.inj ho
        exact fill_store_arc h1 ((h2 78 (by simp [Oper.looksAt, Op.operands]) (show (78 : Nat) ≠ 15 by decide)).trans rfl) h3
      case htaila =>
        intro bs W7 hWa hheld _
        have Pa : BlkC W7 (bs 10) _ 84 := (hheld _ (.head _)).2
        have hBa : wr.heap.size ≤ bs 10 := (hheld _ (.head _)).1
        clear hheld
        simp only [FillN.putAll, FillN.ptrV]
        generalize bs 10 = B1 at *
        simp only [Act.put, List.setIfInBounds_toArray, List.set_cons_zero, List.set_cons_succ]

        have HP7 := Lib.hid Pa
        have hlt7 := Pa.lt
        have hE8 := hE3.trans' hWa
        have hY8 := hY3.trans' hWa
        have hXX8 := hX3.trans' hWa
        clear Pa C1
        clear g0 g1 hz
        have g0 := (HB.out.ext hY8).cellv 0 (v := .int .i64 N) rfl
        have g1 := (HB.out.ext hY8).cellv 1 (v := .slice a R.length c) rfl
        have hz := (HB.out.ext hY8).lt
        go_wp2_with fail
        refine FillN.wp_region_fill (A := ?Aub) 134 [true, true, true, true, true, true, true, true, true, true, true, true, true, true, false, false, true] [⟨14, 17, #[.int .i64 0, .int .i64 0, .int .i64 0, .int .i64 0, .int .i64 0], 84, 15, #[.int .i64 ft, .int .i64 tt, .int .i64 lt, .int .i64 nt, .int .i64 st]⟩] (by kernel_rfl) (by kernel_rfl) rfl ?hmkb ?hwalkb ?hflb ?htailb
        case hmkb =>
          intro m hm o ho ρ W
          obtain rfl := List.mem_singleton.1 hm
          obtain rfl := Option.some.inj ho
          exact run_alloc_arc ρ W _ _ _ _
        case hwalkb =>
          intro W1 hW1
          have hEw := hE8.trans' hW1
          have hYw := hY8.trans' hW1
          have C84 := Lib.hid (fun x' : GW W1 => C2.out x'.world (hEw.trans' x'.ext))
          have g0 := (HB.out.ext hYw).cellv 0 (v := .int .i64 N) rfl
          have g1 := (HB.out.ext hYw).cellv 1 (v := .slice a R.length c) rfl
          have hzr := (HB.out.ext hYw).lt
          have cc := (hEw.cell' hb4).trans hc5
          have hbw := Nat.lt_of_lt_of_le hb4 hEw.size
          simp only [FillN.pickQ]
          repeat (go_big_quiet_step ((go_at_call 84; exact quiet_ext (C84.out _))))
          refine wpQuiet_nil ?_
          rfl
        case hflb =>
          intro m hm o ho aa W B h1 h2 h3
          obtain rfl := List.mem_singleton.1 hm
          obtain rfl := Option.some.inj ho
          exact fill_store_arc h1 ((h2 92 (by simp [Oper.looksAt, Op.operands]) (show (92 : Nat) ≠ 17 by decide)).trans rfl) h3
        case htailb =>
          intro bs W11 hWb hheld _
          have Pb : BlkC W11 (bs 14) _ 84 := (hheld _ (.head _)).2
          have hBb : W7.heap.size ≤ bs 14 := (hheld _ (.head _)).1
          clear hheld
          simp only [FillN.putAll, FillN.ptrV]
          generalize bs 14 = B2 at *
          simp only [Act.put, List.setIfInBounds_toArray, List.set_cons_zero, List.set_cons_succ]

          have hE11 := hE8.trans' hWb
          have HA11 := Lib.hid (HP7.out.ext hWb)
          have HB11 := Lib.hid Pb
          clear Pb C2
          have a1' := HA11.out.cellv 1 (v := .int .i64 ts) rfl
          have a2' := HA11.out.cellv 2 (v := .int .i64 ls) rfl
          have a3' := HA11.out.lt
          have b0' := HB11.out.cellv 0 (v := .int .i64 ft) rfl
          have b3' := HB11.out.lt
          have hXX11 := hXX8.trans' hWb
          rcases Bool.eq_false_or_eq_true oks with ho | ho
          case inr =>
            have HR := Lib.hid (Herr.out (Hq1.out ho))
            have HV : Hid (rndV N R y x p = 0) := Lib.hid (rndV_no (by rw [HR.out]; omega))
            rw [ho]
            clear ho
            go_wp2_with fail
            go_ret2
            exact ⟨ret_ii HV.out.symm HR.out.symm, hE11⟩
          have Hok1 := Lib.hid ho
          rw [ho]
          clear ho
          by_cases hne : ts = ft
          case neg =>
            have hd : (ts != ft) = true := by simp [hne]
            have HR := Lib.hid (Herr.out (Hq2.out hne))
            have HV : Hid (rndV N R y x p = 0) := Lib.hid (rndV_no (by rw [HR.out]; omega))
            clear hne
            go_wp2_with fail
            go_ret2
            exact ⟨ret_ii HV.out.symm HR.out.symm, hE11⟩
          have hd : (ts != ft) = false := by simp [hne]
          have Hne := Lib.hid hne
          clear hne
          obtain ⟨wo, rfl⟩ : ∃ wo : World, wo = wr := ⟨_, rfl⟩
          go_wp2_with fail
          clear a1' a2' a3' b0' b3' hd
          go_loopw [19] (fun i wr => ∃ k : Nat, k ≤ q ∧ i = .int .i64 k ∧ Ext W11 wr ∧ Hid (newTo p q k = true)) (fun i _ => q - (intOf i).toNat)
          case atStart => exact ⟨0, Nat.zero_le _, rfl, Ext.rfl' _, Lib.hid rfl⟩
          case round =>
            obtain ⟨k, hk, rfl, hX12, HN⟩ := hrel
            have hE12 := hE11.trans' hX12
            have a2' := (HA11.out.ext hX12).cellv 2 (v := .int .i64 ls) rfl
            have a3' := (HA11.out.ext hX12).lt
            by_cases hlk : k < q
            case neg =>
              obtain rfl : k = q := by omega
              have HQ2 := Lib.hid (Hq4.out Hok1.out Hne.out HN.out)
              go_wp2_with fail
              go_roundw
              case rel => exact ⟨k + 1, by omega, by go_num, by rw [Hln.out], hXX11.trans' hX12, Lib.hid (by rw [rndQTo_succ, HQ.out, HQ2.out]; rfl)⟩
              case measure => simp [intOf]; omega
            obtain ⟨b6, o6, e6, hb6, hc6⟩ := Hp2.out k (by omega)
            simp only [Option.some.injEq, Addr.mk.injEq, and_true] at e6
            obtain ⟨rfl, rfl⟩ := e6
            rw [gi_def] at hc6
            have Hnn : Hid ((!decide (gi p k = s) && !decide (gi p k = -s)) = false → newTo p q q = false) := Lib.hid (fun h => newTo_no (k := k) (by rw [Hs.out]; exact h) hlk)
            have Hns : Hid (newTo p q (k + 1) = (newTo p q k && (!decide (gi p k = s) && !decide (gi p k = -s)))) := Lib.hid (by rw [newTo_succ, Hs.out])
            have hbs := HIn.out q hlq
            rw [Hs.out] at hbs
            have hbs2 : -12 ≤ s ∧ s ≤ 12 := by unfold StepIn at hbs; omega
            clear hbs
            have d4 := (hE12.cell' hb4).trans hc4
            have d6 := (hE12.cell' hb4).trans hc6
            have hbw := Nat.lt_of_lt_of_le hb4 hE12.size
            generalize gi p k = u at *
            clear hc6 a2' a3'
            by_cases hu1 : u = s
            case pos =>
              have hd : (u == s) = true := by simp [hu1]
              have HR := Lib.hid (Herr.out (Hq3.out (Hnn.out (by simp [hu1]))))
              have HV : Hid (rndV N R y x p = 0) := Lib.hid (rndV_no (by rw [HR.out]; omega))
              clear hu1
              go_wp2_with fail
              refine wp_region_ext (by kernel_rfl) (by kernel_rfl) ?_
              repeat (go_big_quiet_step (fail))
              refine wpQuiet_nil ?_
              intro w13 hX13
              go_wp2_with fail
              go_ret2
              exact ⟨ret_ii HV.out.symm HR.out.symm, hE12.trans' hX13⟩
            have hd : (u == s) = false := by simp [hu1]
            by_cases hu2 : u = -s
            case pos =>
              have hd2 : (u == -s) = true := by simp [hu2]
              have HR := Lib.hid (Herr.out (Hq3.out (Hnn.out (by simp [hu2]))))
              have HV : Hid (rndV N R y x p = 0) := Lib.hid (rndV_no (by rw [HR.out]; omega))
              clear hu1 hu2
              go_wp2_with fail
              refine wp_region_ext (by kernel_rfl) (by kernel_rfl) ?_
              repeat (go_big_quiet_step (fail))
              refine wpQuiet_nil ?_
              intro w13 hX13
              go_wp2_with fail
              go_ret2
              exact ⟨ret_ii HV.out.symm HR.out.symm, hE12.trans' hX13⟩
            have hd2 : (u == -s) = false := by simp [hu2]
            have HN2 : Hid (newTo p q (k + 1) = true) := Lib.hid (by rw [Hns.out, HN.out, decide_eq_false hu1, decide_eq_false hu2]; rfl)
            clear hu1 hu2
            go_wp2_with fail
            refine wp_region_ext (by kernel_rfl) (by kernel_rfl) ?_
            repeat (go_big_quiet_step (fail))
            refine wpQuiet_nil ?_
            intro w13 hX13
            go_wp2_with fail
            go_roundw
            case rel => exact ⟨k + 1, by omega, by go_num, hX12.trans' hX13, HN2⟩
            case measure => simp [intOf]; omega
end Go.Proofs.Ytbejgbflipoboaa
