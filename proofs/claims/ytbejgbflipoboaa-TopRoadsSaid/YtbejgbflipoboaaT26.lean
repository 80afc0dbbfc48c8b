/- Contracts of roads: prices that prove a flow. -/
import Derived.Test.YtbejgbflipoboaaT23
import Derived.Test.YtbejgbflipoboaaT9
import Derived.Test.YtbejgbflipoboaaP3
namespace Go.Proofs.Ytbejgbflipoboaa
open Go.RowKit
attribute [local go_sem] GW.cell
theorem f87_c (n : Int) (w : World) :
    Calls Try.prog 87 #[.int .i64 n] w fun e w' => e = .returned (.bool (!withinB n (-1000) 1000)) ∧ w = w' := by
  go_enter Try.func87, Try.ntmps87
  go_wp2_with (go_at_call 64; refine (f64_c _ _ _ _).mono ?_; rintro e w' ⟨rfl, rfl⟩)
  go_ret
  exact ⟨rfl, rfl⟩
theorem f93_87  (a : Option Addr) (c : Nat) (l : List Int) (w : World) (hl : Ints w a l) (hlen : l.length ≤ 140737488355328)  :
    Calls Try.prog 93 #[.slice a l.length c, .func (.func 87) #[] #[]] w fun e w' => e = .returned (.int .i64 (idxP (fun n => !withinB n (-1000) 1000) l)) ∧ w = w' := by
  go_enter Try.func93, Try.ntmps93
  go_wp2_with fail
  go_loop [5, 8] (fun _ i => ∃ k : Nat, k ≤ l.length ∧ i = .int .i64 k ∧ Hid (∀ j, j < k → (fun n => !withinB n (-1000) 1000) (l[j]?.getD 0) = false)) (fun _ i => l.length - (intOf i).toNat)
  case atStart => exact ⟨0, Nat.zero_le _, rfl, fun j hj => by omega⟩
  case round =>
    obtain ⟨k, hk, rfl, H⟩ := hrel
    by_cases hlt : k < l.length
    · obtain ⟨b, off, rfl, hb, hcc⟩ := hl k hlt
      rw [List.getElem?_eq_getElem hlt, Option.getD_some] at hcc
      go_wp2_with (go_at_call 87; refine (f87_c _ _).mono ?_; rintro e w' ⟨rfl, rfl⟩)
      · have hy : (!withinB l[k] (-1000) 1000) = true := by assumption
        go_ret
        exact ⟨ret_int (idxP_hit (p := (fun n => !withinB n (-1000) 1000)) hlt H.out hy).symm, rfl⟩
      · have hy : (!withinB l[k] (-1000) 1000) = false := by assumption
        go_round
        case rel =>
          refine ⟨k + 1, by omega, by go_num, fun j hj => ?_⟩
          by_cases e : j = k
          · subst e; rw [List.getElem?_eq_getElem hlt]; exact hy
          · exact H.out j (by omega)
        case measure => simp [intOf]; omega
    · obtain rfl : k = l.length := by omega
      go_wp2_with fail
      go_ret
      exact ⟨ret_int (idxP_miss (p := (fun n => !withinB n (-1000) 1000)) H.out).symm, rfl⟩
theorem f85_87  (a : Option Addr) (c : Nat) (l : List Int) (w : World) (hl : Ints w a l) (hlen : l.length ≤ 140737488355328)  :
    Calls Try.prog 85 #[.slice a l.length c, .func (.func 87) #[] #[]] w fun e w' => e = .returned (.bool (l.any (fun n => !withinB n (-1000) 1000))) ∧ w = w' := by
  go_enter Try.func85, Try.ntmps85
  go_wp2_with (go_at_call 93; refine (f93_87 _ _ _ _ hl hlen ).mono ?_; rintro e w' ⟨rfl, rfl⟩)
  go_ret
  exact ⟨ret_bool (idxP_geq _ _), rfl⟩



theorem prcB_no {N : Int} {p : List Int} (h : (p.length : Int) ≠ N) : prcB N p = false := by unfold prcB; simp [h]
theorem prcB_at {N : Int} {p : List Int} (h : (p.length : Int) = N) : prcB N p = !(p.any fun v => !withinB v (-1000) 1000) := by unfold prcB; rw [decide_eq_true h, Bool.true_and, List.all_eq_not_any_not]
set_option maxHeartbeats 4000000 in
theorem f71_c (N : Int) (a : Option Addr) (n c : Nat) (a2 : Option Addr) (n2 c2 : Nat) (p : List Int) (w : World) (hp : Ints w a2 p) (hn2 : p.length = n2) (hlen2 : n2 ≤ 1000000) :
    Calls Try.prog 71 #[.agg #[.int .i64 N, .slice a n c], .slice a2 n2 c2] w fun e w' => e = .returned (.bool (prcB N p)) ∧ Ext w w' := by
  subst hn2
  have hE0 := ext_alloc w (.cells #[.int .i64 N, .slice a n c] 24)
  have HB := Lib.hid (BlkC.new w #[.int .i64 N, .slice a n c] 24)
  have hz := HB.out.lt
  have g0 := HB.out.cellv 0 (v := .int .i64 N) rfl
  have Hp := Lib.hid (hp.ext hE0)
  go_enter Try.func71, Try.ntmps71
  go_upto_region 1 with fail
  generalize (w.alloc (.cells #[.int .i64 N, .slice a n c] 24)) = w0 at *
  by_cases h : (p.length : Int) = N
  · have hd : ((p.length : Int) == N) = true := by simp [h]
    have HR := Lib.hid (prcB_at h)
    clear h
    go_wp2_with (go_at_call 85; refine (f85_87 _ _ _ _ Hp.out (by omega)).mono ?_; rintro e w' ⟨rfl, rfl⟩)
    go_ret
    exact ⟨ret_bool HR.out.symm, hE0⟩
  · have hd : ((p.length : Int) == N) = false := by simp [h]
    have HR := Lib.hid (prcB_no h)
    clear h
    go_wp2_with fail
    go_ret
    exact ⟨ret_bool HR.out.symm, hE0⟩
theorem prcErr_flow {N : Int} {R : List Road} {x f p : List Int} (h : flowErr N R x f ≠ 0) : prcErr N R x f p = flowErr N R x f := by unfold prcErr; rw [if_pos h]
theorem prcErr_1 {N : Int} {R : List Road} {x f p : List Int} (h : flowErr N R x f = 0) (h2 : prcB N p = false) : prcErr N R x f p = 1 := by unfold prcErr; rw [if_neg (by omega), h2]; rfl
theorem prcErr_7 {N : Int} {R : List Road} {x f p : List Int} (h : flowErr N R x f = 0) (h2 : prcB N p = true) (h3 : potB R f p = false) : prcErr N R x f p = 7 := by unfold prcErr; rw [if_neg (by omega), h2, h3]; rfl
theorem prc_bd {N : Int} {p : List Int} (h : prcB N p = true) : (p.length : Int) = N ∧ ∀ v, -1000 ≤ gi p v ∧ gi p v ≤ 1000 := by
  have hN : (p.length : Int) = N := by
    refine Classical.byContradiction fun hn => ?_
    rw [prcB_no hn] at h; simp at h
  subst hN
  have h2 := (prcB_iff (M := p.length)).1 h
  refine ⟨rfl, fun v => ?_⟩
  by_cases hv : v < p.length
  · exact h2.2 v hv
  · rw [gi_out (by omega)]; omega
theorem prcB_out {N : Int} {p : List Int} {k : Nat} (hk : k < p.length) (h : withinB (gi p k) (-1000) 1000 = false) : prcB N p = false := by
  unfold prcB
  rw [Bool.and_eq_false_iff]
  right
  rw [List.all_eq_false]
  rw [gi_at hk] at h
  exact ⟨_, List.getElem_mem hk, by simp [h]⟩
theorem prcB_in {N : Int} {p : List Int} (hN : (p.length : Int) = N) (h : ∀ j, j < p.length → withinB (gi p j) (-1000) 1000 = true) : prcB N p = true := by
  unfold prcB
  rw [decide_eq_true hN, Bool.true_and, List.all_eq_true]
  intro v hv
  obtain ⟨j, hj, rfl⟩ := List.getElem_of_mem hv
  have := h j hj
  rwa [gi_at hj] at this
/-- the cost of a step, by the prices -/
def costP (R : List Road) (p : List Int) (s : Int) : Int := stLn R s + gi p (stFr R s).toNat - gi p (stTo R s).toNat
theorem potB_no {R : List Road} {f p : List Int} {q : Nat} (hq : q < (stepsTo R f R.length).length) (h : costP R p (gi (stepsTo R f R.length) q) < 0) : potB R f p = false := by
  unfold potB
  rw [List.all_eq_false]
  rw [gi_at hq] at h
  exact ⟨_, List.getElem_mem hq, by unfold costP at h; simp; omega⟩
theorem potB_yes {R : List Road} {f p : List Int} (h : ∀ q, q < (stepsTo R f R.length).length → 0 ≤ costP R p (gi (stepsTo R f R.length) q)) : potB R f p = true := by
  unfold potB
  rw [List.all_eq_true]
  intro s hs
  obtain ⟨q, hq, rfl⟩ := List.getElem_of_mem hs
  have := h q hq
  rw [gi_at hq] at this
  unfold costP at this
  simpa using this
set_option maxRecDepth 20000 in
set_option maxHeartbeats 8000000 in
theorem f38_c (N : Int) (a : Option Addr) (n c : Nat) (R : List Road) (a1 : Option Addr) (n1 c1 : Nat) (y : List Int) (a2 : Option Addr) (n2 c2 : Nat) (x : List Int) (a3 : Option Addr) (n3 c3 : Nat) (p : List Int) (w : World) (hl : Roads w a R) (hn : R.length = n) (hlen : n ≤ 140737488355328) (hy : Ints w a1 y) (hn1 : y.length = n1) (hlen1 : n1 ≤ 1000000) (hx : Ints w a2 x) (hn2 : x.length = n2) (hlen2 : n2 ≤ 1000000) (hp : Ints w a3 p) (hn3 : p.length = n3) (hlen3 : n3 ≤ 1000000) :
    Calls Try.prog 38 #[.agg #[.int .i64 N, .slice a n c], .slice a1 n1 c1, .slice a2 n2 c2, .slice a3 n3 c3] w fun e w' => e = .returned (.int .i64 (prcErr N R y x p)) ∧ Ext w w' := by
  subst hn hn1 hn2 hn3
  have hE0 := ext_alloc w (.cells #[.int .i64 N, .slice a R.length c] 24)
  have HB := Lib.hid (BlkC.new w #[.int .i64 N, .slice a R.length c] 24)
  have hz := HB.out.lt
  have g0 := HB.out.cellv 0 (v := .int .i64 N) rfl
  have g1 := HB.out.cellv 1 (v := .slice a R.length c) rfl
  go_enter Try.func38, Try.ntmps38
  go_wp2_with fail
  generalize (w.alloc (.cells #[.int .i64 N, .slice a R.length c] 24)) = w0 at *
  refine (f20_c N a R.length c R a1 y.length c1 y a2 x.length c2 x _ (hl.ext hE0) rfl hlen (hy.ext hE0) rfl hlen1 (hx.ext hE0) rfl hlen2).mono ?_
  rintro e w1 ⟨rfl, hX1⟩
  have hE1 := hE0.trans' hX1
  generalize flowV N R y x = V at *
  by_cases h0 : flowErr N R y x = 0
  case neg =>
    have hb : (flowErr N R y x != 0) = true := by simp [h0]
    have HR := Lib.hid (prcErr_flow (p := p) h0)
    clear h0
    generalize flowErr N R y x = E at *
    go_wp2_with fail
    go_ret
    exact ⟨ret_int HR.out.symm, hE1⟩
  obtain ⟨hle, h12⟩ : x.length = R.length ∧ R.length ≤ 12 := by
    obtain ⟨M, rfl, _, k3, _, k5, _⟩ := flow_right h0
    exact ⟨k5.1, k3.r12⟩
  have HLe := Lib.hid hle
  clear hle
  have Hok : Hid (NetOk N R) := Lib.hid (netErr_ok (excErr_ok (flow_exc0 h0)).1)
  have H0 := Lib.hid h0
  rw [h0]
  clear h0
  clear g0 g1 hz
  have g0 := (HB.out.ext hX1).cellv 0 (v := .int .i64 N) rfl
  have g1 := (HB.out.ext hX1).cellv 1 (v := .slice a R.length c) rfl
  have hz := (HB.out.ext hX1).lt
  go_wp2_with fail
  refine (f71_c N a R.length c a3 p.length c3 p w1 (hp.ext hE1) rfl hlen3).mono ?_
  rintro e w2 ⟨rfl, hX2⟩
  have hE2 := hE1.trans' hX2
  have hY2 := hX1.trans' hX2
  rcases Bool.eq_false_or_eq_true (prcB N p) with hb | hb
  case inr =>
    have HR := Lib.hid (prcErr_1 H0.out hb)
    rw [hb]
    clear hb
    go_wp2_with fail
    go_ret
    exact ⟨ret_int HR.out.symm, hE2⟩
  have Hb := Lib.hid hb
  rw [hb]
  clear hb
  clear g0 g1 hz
  have g0 := (HB.out.ext hY2).cellv 0 (v := .int .i64 N) rfl
  have g1 := (HB.out.ext hY2).cellv 1 (v := .slice a R.length c) rfl
  have hz := (HB.out.ext hY2).lt
  go_wp2_with fail
  refine (f72_c N a R.length c R a2 x.length c2 x w2 (hl.ext hE2) rfl h12 (hx.ext hE2) rfl HLe.out).mono ?_
  rintro e w3 ⟨v3, rfl, hO3, hX3⟩
  obtain ⟨a4, c4, e4, hI4⟩ := ints_of_row hO3
  subst e4
  have HI4 := Lib.hid hI4
  have hE3 := hE2.trans' hX3
  have hY3 := hY2.trans' hX3
  have Hno := Lib.hid (fun q hq h => potB_no (R := R) (f := x) (p := p) (q := q) hq h)
  have Hyes := Lib.hid (fun h => potB_yes (R := R) (f := x) (p := p) h)
  have HLin := Lib.hid (stepsTo_in R x R.length)
  have HL24 : Hid ((stepsTo R x R.length).length ≤ 24) := Lib.hid (by have := stepsTo_length R x R.length; omega)
  have hL24 := HL24.out
  clear hO3 hI4
  generalize stepsTo R x R.length = L at *
  go_wp2_with fail
  go_loopw [34] (fun i wr => ∃ q : Nat, q ≤ L.length ∧ i = .int .i64 q ∧ Ext w3 wr ∧ Hid (∀ j, j < q → 0 ≤ costP R p (gi L j))) (fun i _ => L.length - (intOf i).toNat)
  case atStart => exact ⟨0, Nat.zero_le _, rfl, Below.refl _ _, Lib.hid (fun j hj => absurd hj (Nat.not_lt_zero j))⟩
  case round =>
    obtain ⟨q, hq, rfl, hX4, HK⟩ := hrel
    have hE4 := hE3.trans' hX4
    have hY4 := hY3.trans' hX4
    clear g0 g1 hz
    have g0 := (HB.out.ext hY4).cellv 0 (v := .int .i64 N) rfl
    have g1 := (HB.out.ext hY4).cellv 1 (v := .slice a R.length c) rfl
    have hz := (HB.out.ext hY4).lt
    by_cases hlt : q < L.length
    case neg =>
      obtain rfl : q = L.length := by omega
      have HR := Lib.hid (prcErr_mk H0.out Hb.out (Hyes.out HK.out))
      go_wp2_with fail
      go_ret
      exact ⟨ret_int HR.out.symm, hE4⟩
    obtain ⟨b4, o4, rfl, hb4, hc4⟩ := (HI4.out.ext hX4) q hlt
    rw [gi_def] at hc4
    have hsin := HLin.out (gi L q) (by rw [gi_at hlt]; exact List.getElem_mem _)
    have C73 := Lib.hid (fun W hE => f73_c (gi L q) N a R.length c R W (hl.ext hE) rfl Hok.out hsin)
    have hfr := stFr_bd Hok.out hsin
    have hto := stTo_bd Hok.out hsin
    have hln := stLn_bd Hok.out hsin
    have Hcp : Hid (costP R p (gi L q) = stLn R (gi L q) + gi p (stFr R (gi L q)).toNat - gi p (stTo R (gi L q)).toNat) := Lib.hid rfl
    have Hno2 := Lib.hid (fun h => prcErr_7 H0.out Hb.out (Hno.out q hlt h))
    clear hsin
    generalize hs : gi L q = s at *
    have Hs := Lib.hid hs
    clear hs
    go_wp2_with fail
    refine (C73.out _ hE4).mono ?_
    rintro e w5 ⟨rfl, hX5⟩
    have hE5 := hE4.trans' hX5
    have hX45 := hX4.trans' hX5
    have Hpb := Lib.hid (prc_bd Hb.out)
    clear C73 hc4
    generalize stFr R s = fr at *
    generalize stTo R s = tt at *
    generalize stLn R s = ln at *
    obtain ⟨u, rfl⟩ := Int.eq_ofNat_of_zero_le hfr.1
    obtain ⟨t, rfl⟩ := Int.eq_ofNat_of_zero_le hto.1
    rw [Int.toNat_natCast, Int.toNat_natCast] at Hcp
    have hpl := Hpb.out.1
    have bu := Hpb.out.2 u
    have bt := Hpb.out.2 t
    have hul : u < p.length := by omega
    have htl : t < p.length := by omega
    obtain ⟨b5, o5, rfl, hb5, hc5⟩ := (hp.ext hE5) u hul
    obtain ⟨b6, o6, e6, hb6, hc6⟩ := (hp.ext hE5) t htl
    simp only [Option.some.injEq, Addr.mk.injEq, and_true] at e6
    obtain ⟨rfl, rfl⟩ := e6
    rw [gi_def] at hc5 hc6
    clear hpl Hpb
    generalize gi p u = pu at *
    generalize gi p t = pt at *
    by_cases hneg : ln + pu - pt < 0
    · have hd : decide (ln + pu - pt < 0) = true := decide_eq_true hneg
      have HR := Lib.hid (Hno2.out (by rw [Hcp.out]; exact hneg))
      clear Hno2 Hcp hneg
      go_wp2_with fail
      refine wp_region_ext (by kernel_rfl) (by kernel_rfl) ?_
      repeat (go_big_quiet_step (fail))
      refine wpQuiet_nil ?_
      intro w6 hX6
      go_wp2_with fail
      go_ret
      exact ⟨ret_int HR.out.symm, hE5.trans' hX6⟩
    · have hd : decide (ln + pu - pt < 0) = false := decide_eq_false hneg
      have HK2 : Hid (∀ j, j < q + 1 → 0 ≤ costP R p (gi L j)) := Lib.hid (fun j hj => by
        rcases Nat.lt_succ_iff_lt_or_eq.1 hj with h | rfl
        · exact HK.out j h
        · rw [Hs.out, Hcp.out]; omega)
      clear Hno2 Hcp hneg
      go_wp2_with fail
      refine wp_region_ext (by kernel_rfl) (by kernel_rfl) ?_
      repeat (go_big_quiet_step (fail))
      refine wpQuiet_nil ?_
      intro w6 hX6
      go_wp2_with fail
      go_roundw
      case rel => exact ⟨q + 1, by omega, by go_num, hX45.trans' hX6, HK2⟩
      case measure => simp [intOf]; omega
set_option maxRecDepth 20000 in
set_option maxHeartbeats 8000000 in
theorem f39_c (N : Int) (a : Option Addr) (n c : Nat) (R : List Road) (a1 : Option Addr) (n1 c1 : Nat) (y : List Int) (a2 : Option Addr) (n2 c2 : Nat) (x : List Int) (a3 : Option Addr) (n3 c3 : Nat) (p : List Int) (w : World) (hl : Roads w a R) (hn : R.length = n) (hlen : n ≤ 140737488355328) (hy : Ints w a1 y) (hn1 : y.length = n1) (hlen1 : n1 ≤ 1000000) (hx : Ints w a2 x) (hn2 : x.length = n2) (hlen2 : n2 ≤ 1000000) (hp : Ints w a3 p) (hn3 : p.length = n3) (hlen3 : n3 ≤ 1000000) :
    Calls Try.prog 39 #[.agg #[.int .i64 N, .slice a n c], .slice a1 n1 c1, .slice a2 n2 c2, .slice a3 n3 c3] w fun e w' => e = .returned (.int .i64 (prcErr N R y x p)) ∧ Ext w w' := by
  subst hn hn1 hn2 hn3
  have hE0 := ext_alloc w (.cells #[.int .i64 N, .slice a R.length c] 24)
  have HB := Lib.hid (BlkC.new w #[.int .i64 N, .slice a R.length c] 24)
  have hz := HB.out.lt
  have g0 := HB.out.cellv 0 (v := .int .i64 N) rfl
  have g1 := HB.out.cellv 1 (v := .slice a R.length c) rfl
  go_enter Try.func39, Try.ntmps39
  go_wp2_with fail
  generalize (w.alloc (.cells #[.int .i64 N, .slice a R.length c] 24)) = w0 at *
  refine (f21_c N a R.length c R a1 y.length c1 y a2 x.length c2 x _ (hl.ext hE0) rfl hlen (hy.ext hE0) rfl hlen1 (hx.ext hE0) rfl hlen2).mono ?_
  rintro e w1 ⟨rfl, hX1⟩
  have hE1 := hE0.trans' hX1
  generalize flowV N R y x = V at *
  by_cases h0 : flowErr N R y x = 0
  case neg =>
    have hb : (flowErr N R y x != 0) = true := by simp [h0]
    have HR := Lib.hid (prcErr_flow (p := p) h0)
    clear h0
    generalize flowErr N R y x = E at *
    go_wp2_with fail
    go_ret
    exact ⟨ret_int HR.out.symm, hE1⟩
  obtain ⟨hle, h12⟩ : x.length = R.length ∧ R.length ≤ 12 := by
    obtain ⟨M, rfl, _, k3, _, k5, _⟩ := flow_right h0
    exact ⟨k5.1, k3.r12⟩
  have HLe := Lib.hid hle
  clear hle
  have Hok : Hid (NetOk N R) := Lib.hid (netErr_ok (excErr_ok (flow_exc0 h0)).1)
  have H0 := Lib.hid h0
  rw [h0]
  clear h0
  clear g0 g1 hz
  have g0 := (HB.out.ext hX1).cellv 0 (v := .int .i64 N) rfl
  have g1 := (HB.out.ext hX1).cellv 1 (v := .slice a R.length c) rfl
  have hz := (HB.out.ext hX1).lt
  by_cases hpN : (p.length : Int) = N
  case neg =>
    have hd : ((p.length : Int) != N) = true := by simp [hpN]
    have HR := Lib.hid (prcErr_1 H0.out (prcB_no hpN))
    clear hpN
    go_wp2_with fail
    go_ret
    exact ⟨ret_int HR.out.symm, hE1⟩
  have hd : ((p.length : Int) != N) = false := by simp [hpN]
  have Hp1 := Lib.hid (prcB_at hpN)
  have HpN := Lib.hid hpN
  clear hpN
  go_wp2_with fail
  go_loopw [11] (fun i wr => ∃ k : Nat, k ≤ p.length ∧ i = .int .i64 k ∧ wr = w1 ∧ Hid (∀ j, j < k → withinB (gi p j) (-1000) 1000 = true)) (fun i _ => p.length - (intOf i).toNat)
  case atStart => exact ⟨0, Nat.zero_le _, rfl, rfl, Lib.hid (fun j hj => absurd hj (Nat.not_lt_zero j))⟩
  case round =>
    obtain ⟨k, hk, rfl, rfl, HK⟩ := hrel
    by_cases hlk : k < p.length
    case pos =>
      obtain ⟨b5, o5, rfl, hb5, hc5⟩ := (hp.ext hE1) k hlk
      rw [gi_def] at hc5
      go_wp2_with fail
      refine (f65_c (gi p k) (-1000) 1000 _).mono ?_
      rintro e w2 ⟨rfl, rfl⟩
      rcases Bool.eq_false_or_eq_true (withinB (gi p k) (-1000) 1000) with hb | hb
      · have HK2 : Hid (∀ j, j < k + 1 → withinB (gi p j) (-1000) 1000 = true) := Lib.hid (fun j hj => by
          rcases Nat.lt_succ_iff_lt_or_eq.1 hj with h | rfl
          · exact HK.out j h
          · exact hb)
        rw [hb]
        clear hb
        go_wp2_with fail
        go_roundw
        case rel => exact ⟨k + 1, by omega, by go_num, by first | rfl | trivial, HK2⟩
        case measure => simp [intOf]; omega
      · have HR := Lib.hid (prcErr_1 H0.out (prcB_out hlk hb))
        rw [hb]
        clear hb
        go_wp2_with fail
        go_ret
        exact ⟨ret_int HR.out.symm, hE1⟩
    obtain rfl : k = p.length := by omega
    have Hb : Hid (prcB N p = true) := Lib.hid (prcB_in HpN.out HK.out)
    clear hd
    go_wp2_with fail
    refine (f74_c N a R.length c R a2 x.length c2 x _ (hl.ext hE1) rfl h12 (hx.ext hE1) rfl HLe.out (fun q hq => Hok.out.ln q hq)).mono ?_
    rintro e w3 ⟨v3, rfl, hO3, hX3⟩
    obtain ⟨a4, c4, e4, hI4⟩ := rarcs_of_row hO3
    subst e4
    have HI4 := Lib.hid hI4
    have hE3 := hE1.trans' hX3
    have hY3 := hX1.trans' hX3
    have Hno := Lib.hid (fun q hq h => potB_no (R := R) (f := x) (p := p) (q := q) hq h)
    have Hyes := Lib.hid (fun h => potB_yes (R := R) (f := x) (p := p) h)
    have HLin := Lib.hid (stepsTo_in R x R.length)
    have HL24 : Hid ((stepsTo R x R.length).length ≤ 24) := Lib.hid (by have := stepsTo_length R x R.length; omega)
    have hL24 := HL24.out
    have hln4 : (arcsOf R (stepsTo R x R.length)).length = (stepsTo R x R.length).length := arcsOf_length _ _
    rw [hln4]
    clear hO3 hI4 hln4
    generalize stepsTo R x R.length = L at *
    have Hpb := Lib.hid (prc_bd Hb.out)
    go_wp2_with fail
    go_loopw [13] (fun i wr => ∃ q : Nat, q ≤ L.length ∧ i = .int .i64 q ∧ Ext w3 wr ∧ Hid (∀ j, j < q → 0 ≤ costP R p (gi L j))) (fun i _ => L.length - (intOf i).toNat)
    case atStart => exact ⟨0, Nat.zero_le _, rfl, Below.refl _ _, Lib.hid (fun j hj => absurd hj (Nat.not_lt_zero j))⟩
    case round =>
      obtain ⟨q, hq, rfl, hX4, HK⟩ := hrel
      have hE4 := hE3.trans' hX4
      by_cases hlt : q < L.length
      case neg =>
        obtain rfl : q = L.length := by omega
        have HR := Lib.hid (prcErr_mk H0.out Hb.out (Hyes.out HK.out))
        go_wp2_with fail
        go_ret
        exact ⟨ret_int HR.out.symm, hE4⟩
      have hla : q < (arcsOf R L).length := by rw [arcsOf_length]; exact hlt
      obtain ⟨b4, o4, rfl, hb4, d1, d2, d3, d4, d5⟩ := (HI4.out.ext hX4) q hla
      have hg : (arcsOf R L)[q] = arcOf R (gi L q) := by rw [gi_at hlt]; simp [arcsOf]
      rw [hg] at d1 d2 d3
      unfold arcOf at d1 d2 d3
      simp only at d1 d2 d3
      have hsin := HLin.out (gi L q) (by rw [gi_at hlt]; exact List.getElem_mem _)
      have hfr := stFr_bd Hok.out hsin
      have hto := stTo_bd Hok.out hsin
      have hln := stLn_bd Hok.out hsin
      have Hcp : Hid (costP R p (gi L q) = stLn R (gi L q) + gi p (stFr R (gi L q)).toNat - gi p (stTo R (gi L q)).toNat) := Lib.hid rfl
      have Hno2 := Lib.hid (fun h => prcErr_7 H0.out Hb.out (Hno.out q hlt h))
      clear hsin hg d4 d5
      generalize hs : gi L q = s at *
      have Hs := Lib.hid hs
      clear hs
      generalize stFr R s = fr at *
      generalize stTo R s = tt at *
      generalize stLn R s = ln at *
      obtain ⟨u, rfl⟩ := Int.eq_ofNat_of_zero_le hfr.1
      obtain ⟨t, rfl⟩ := Int.eq_ofNat_of_zero_le hto.1
      rw [Int.toNat_natCast, Int.toNat_natCast] at Hcp
      have hpl := Hpb.out.1
      have bu := Hpb.out.2 u
      have bt := Hpb.out.2 t
      have hul : u < p.length := by omega
      have htl : t < p.length := by omega
      obtain ⟨b5, o5, rfl, hb5, hc5⟩ := (hp.ext hE4) u hul
      obtain ⟨b6, o6, e6, hb6, hc6⟩ := (hp.ext hE4) t htl
      simp only [Option.some.injEq, Addr.mk.injEq, and_true] at e6
      obtain ⟨rfl, rfl⟩ := e6
      rw [gi_def] at hc5 hc6
      clear hpl
      generalize gi p u = pu at *
      generalize gi p t = pt at *
      by_cases hneg : ln + pu - pt < 0
      · have hd : decide (ln + pu - pt < 0) = true := decide_eq_true hneg
        have HR := Lib.hid (Hno2.out (by rw [Hcp.out]; exact hneg))
        clear Hno2 Hcp hneg
        go_wp2_with fail
        refine wp_region_ext (by kernel_rfl) (by kernel_rfl) ?_
        repeat (go_big_quiet_step (fail))
        refine wpQuiet_nil ?_
        intro w6 hX6
        go_wp2_with fail
        go_ret
        exact ⟨ret_int HR.out.symm, hE4.trans' hX6⟩
      · have hd : decide (ln + pu - pt < 0) = false := decide_eq_false hneg
        have HK2 : Hid (∀ j, j < q + 1 → 0 ≤ costP R p (gi L j)) := Lib.hid (fun j hj => by
          rcases Nat.lt_succ_iff_lt_or_eq.1 hj with h | rfl
          · exact HK.out j h
          · rw [Hs.out, Hcp.out]; omega)
        clear Hno2 Hcp hneg
        go_wp2_with fail
        refine wp_region_ext (by kernel_rfl) (by kernel_rfl) ?_
        repeat (go_big_quiet_step (fail))
        refine wpQuiet_nil ?_
        intro w6 hX6
        go_wp2_with fail
        go_roundw
        case rel => exact ⟨q + 1, by omega, by go_num, hX4.trans' hX6, HK2⟩
        case measure => simp [intOf]; omega
end Go.Proofs.Ytbejgbflipoboaa
