/- Contracts of roads: CheckRound of the program. -/
import Derived.Test.YtbejgbflipoboaaT29
import Derived.Test.YtbejgbflipoboaaP1
import Derived.Test.YtbejgbflipoboaaT23
namespace Go.Proofs.Ytbejgbflipoboaa
open Go.RowKit
attribute [local go_sem] GW.cell
theorem f92_c (a : Option Addr) (c : Nat) (l : List Int) (s : Int) (w : World) (hl : Ints w a l) (hlen : l.length ≤ 140737488355328) :
    Calls Try.prog 92 #[.slice a l.length c, .int .i64 s] w fun e w' => e = .returned (.int .i64 (idxP (fun x => s == x) l)) ∧ w = w' := by
  go_enter Try.func92, Try.ntmps92
  go_wp2_with fail
  go_loop [5, 8] (fun _ i => ∃ k : Nat, k ≤ l.length ∧ i = .int .i64 k ∧ Hid (∀ j, j < k → (fun x => s == x) (l[j]?.getD 0) = false)) (fun _ i => l.length - (intOf i).toNat)
  case atStart => exact ⟨0, Nat.zero_le _, rfl, fun j hj => by omega⟩
  case round =>
    obtain ⟨k, hk, rfl, H⟩ := hrel
    by_cases hlt : k < l.length
    · obtain ⟨b, off, rfl, hb, hcc⟩ := hl k hlt
      rw [List.getElem?_eq_getElem hlt, Option.getD_some] at hcc
      rcases Bool.eq_false_or_eq_true (s == l[k]) with hy | hy
      · have HR := Lib.hid (idxP_hit (p := fun x => s == x) hlt H.out hy)
        generalize l[k] = u at *
        go_wp2_with fail
        go_ret
        exact ⟨ret_int HR.out.symm, rfl⟩
      · have HN : Hid (∀ j, j < k + 1 → (fun x => s == x) (l[j]?.getD 0) = false) := Lib.hid (fun j hj => by
          by_cases e : j = k
          · subst e; rw [List.getElem?_eq_getElem hlt]; exact hy
          · exact H.out j (by omega))
        generalize l[k] = u at *
        go_wp2_with fail
        go_round
        case rel => exact ⟨k + 1, by omega, by go_num, HN⟩
        case measure => simp [intOf]; omega
    · obtain rfl : k = l.length := by omega
      go_wp2_with fail
      go_ret
      exact ⟨ret_int (idxP_miss (p := (fun x => s == x)) H.out).symm, rfl⟩
theorem f80_c (a : Option Addr) (c : Nat) (l : List Int) (s : Int) (w : World) (hl : Ints w a l) (hlen : l.length ≤ 140737488355328) :
    Calls Try.prog 80 #[.slice a l.length c, .int .i64 s] w fun e w' => e = .returned (.bool (l.any (fun x => s == x))) ∧ w = w' := by
  go_enter Try.func80, Try.ntmps80
  go_wp2_with (go_at_call 92; refine (f92_c _ _ _ _ _ hl hlen).mono ?_; rintro e w' ⟨rfl, rfl⟩)
  go_ret
  exact ⟨ret_bool (idxP_geq _ _), rfl⟩
theorem any_steps {R : List Road} {f : List Int} {s : Int} (hs : StepIn R.length s) : (stepsTo R f R.length).any (fun x => s == x) = stOk R f s := by
  rw [Bool.eq_iff_iff, List.any_eq_true, ← mem_steps hs]
  constructor
  · rintro ⟨x, hx, e⟩
    have : s = x := by simpa using e
    rw [this]; exact hx
  · intro h; exact ⟨s, h, by simp⟩
theorem rndP_no1 {R : List Road} {f c : List Int} {i : Nat} (h : ¬ stFr R (gi c i) = rndAt R c i) : rndP R f c i = false := by unfold rndP; rw [decide_eq_false h]; rfl
theorem rndP_no2 {R : List Road} {f c : List Int} {i : Nat} (h : usedTo c i (stepNo (gi c i)) = true) : rndP R f c i = false := by unfold rndP; rw [h]; simp
theorem rndP_no3 {R : List Road} {f c : List Int} {i : Nat} (h : stOk R f (gi c i) = false) : rndP R f c i = false := by unfold rndP; rw [h]; simp
theorem rndP_yes {R : List Road} {f c : List Int} {i : Nat} (h1 : stFr R (gi c i) = rndAt R c i) (h2 : usedTo c i (stepNo (gi c i)) = false) (h3 : stOk R f (gi c i) = true) : rndP R f c i = true := by unfold rndP; rw [decide_eq_true h1, h2, h3]; rfl
theorem used_zero (c : List Int) (k : Int) : usedTo c 0 k = false := rfl
theorem used_upd (c : List Int) (i : Nat) (k : Int) : updB (usedTo c i) ((stepNo (gi c i) : Nat) : Int) true k = usedTo c (i + 1) k := by
  rw [usedTo_succ]
  unfold updB
  by_cases e : k = ((stepNo (gi c i) : Nat) : Int)
  · rw [if_pos e, decide_eq_true e.symm]; simp
  · rw [if_neg e, decide_eq_false (fun h => e h.symm)]; simp
set_option maxRecDepth 20000 in
set_option maxHeartbeats 16000000 in
theorem f46_c (N : Int) (a : Option Addr) (n c : Nat) (R : List Road) (a1 : Option Addr) (n1 c1 : Nat) (y : List Int) (a2 : Option Addr) (n2 c2 : Nat) (x : List Int) (a3 : Option Addr) (n3 c3 : Nat) (p : List Int) (w : World) (hl : Roads w a R) (hn : R.length = n) (hlen : n ≤ 140737488355328) (hy : Ints w a1 y) (hn1 : y.length = n1) (hlen1 : n1 ≤ 1000000) (hx : Ints w a2 x) (hn2 : x.length = n2) (hlen2 : n2 ≤ 1000000) (hp : Ints w a3 p) (hn3 : p.length = n3) (hlen3 : n3 ≤ 1000000) :
    Calls Try.prog 46 #[.agg #[.int .i64 N, .slice a n c], .slice a1 n1 c1, .slice a2 n2 c2, .slice a3 n3 c3] w fun e w' => e = .returned (.tuple #[.int .i64 (rndV N R y x p), .int .i64 (rndErr N R y x p)]) ∧ Ext w w' := by
  subst hn hn1 hn2 hn3
  have hE0 := ext_alloc w (.cells #[.int .i64 N, .slice a R.length c] 24)
  have HB := Lib.hid (BlkC.new w #[.int .i64 N, .slice a R.length c] 24)
  have hz := HB.out.lt
  have g0 := HB.out.cellv 0 (v := .int .i64 N) rfl
  have g1 := HB.out.cellv 1 (v := .slice a R.length c) rfl
  go_enter Try.func46, Try.ntmps46
  go_wp2_with fail
  generalize (w.alloc (.cells #[.int .i64 N, .slice a R.length c] 24)) = w0 at *
  refine (f20_c N a R.length c R a1 y.length c1 y a2 x.length c2 x _ (hl.ext hE0) rfl hlen (hy.ext hE0) rfl hlen1 (hx.ext hE0) rfl hlen2).mono ?_
  rintro e w1 ⟨rfl, hX1⟩
  have hE1 := hE0.trans' hX1
  generalize flowV N R y x = V at *
  by_cases h0 : flowErr N R y x = 0
  case neg =>
    have hb : (flowErr N R y x != 0) = true := by simp [h0]
    have HR := Lib.hid (rndErr_flow (c := p) h0)
    have HV : Hid (rndV N R y x p = 0) := Lib.hid (rndV_no (by rw [HR.out]; exact h0))
    clear h0
    generalize flowErr N R y x = E at *
    go_wp2_with fail
    go_ret2
    exact ⟨ret_ii HV.out.symm HR.out.symm, hE1⟩
  obtain ⟨hle, h12⟩ : x.length = R.length ∧ R.length ≤ 12 := by
    obtain ⟨M, rfl, _, k3, _, k5, _⟩ := flow_right h0
    exact ⟨k5.1, k3.r12⟩
  have HLe := Lib.hid hle
  clear hle
  have Hok : Hid (NetOk N R) := Lib.hid (netErr_ok (excErr_ok (flow_exc0 h0)).1)
  have H0 := Lib.hid h0
  rw [h0]
  clear h0
  clear g0 g1 hz
  have g0 := (HB.out.ext hX1).cellv 0 (v := .int .i64 N) rfl
  have g1 := (HB.out.ext hX1).cellv 1 (v := .slice a R.length c) rfl
  have hz := (HB.out.ext hX1).lt
  go_wp2_with fail
  go_loopw [38] (fun i wr => ∃ k : Nat, k ≤ p.length ∧ i = .int .i64 k ∧ Ext w1 wr ∧ Hid (∀ j, j < k → stIn R.length (gi p j) = true)) (fun i _ => p.length - (intOf i).toNat)
  case atStart => exact ⟨0, Nat.zero_le _, rfl, Ext.rfl' _, Lib.hid (fun j hj => absurd hj (Nat.not_lt_zero j))⟩
  case round =>
    obtain ⟨k, hk, rfl, hX2, HK⟩ := hrel
    have hE2 := hE1.trans' hX2
    have hY2 := hX1.trans' hX2
    clear g0 g1 hz
    have g0 := (HB.out.ext hY2).cellv 0 (v := .int .i64 N) rfl
    have g1 := (HB.out.ext hY2).cellv 1 (v := .slice a R.length c) rfl
    have hz := (HB.out.ext hY2).lt
    by_cases hlk : k < p.length
    case pos =>
      obtain ⟨b5, o5, rfl, hb5, hc5⟩ := (hp.ext hE2) k hlk
      rw [gi_def] at hc5
      have Hno := Lib.hid (fun h => rndErr_4 (c := p) H0.out hlk h)
      have Hst : Hid (stIn R.length (gi p k) = (withinB (gi p k) (-(R.length : Int)) R.length && !decide (gi p k = 0))) := Lib.hid rfl
      have Hnx : Hid (stIn R.length (gi p k) = true → ∀ j, j < k + 1 → stIn R.length (gi p j) = true) := Lib.hid (fun hb j hj => by
          rcases Nat.lt_succ_iff_lt_or_eq.1 hj with h | rfl
          · exact HK.out j h
          · exact hb)
      generalize gi p k = s at *
      go_wp2_with fail
      refine (f64_c s (-(R.length : Int)) R.length _).mono ?_
      rintro e w2 ⟨rfl, rfl⟩
      rcases Bool.eq_false_or_eq_true (withinB s (-(R.length : Int)) R.length) with hb | hb
      case inr =>
        have hS : stIn R.length s = false := by rw [Hst.out, hb]; rfl
        rw [hb]
        clear hb
        have HR := Lib.hid (Hno.out hS)
        have HV : Hid (rndV N R y x p = 0) := Lib.hid (rndV_no (by rw [HR.out]; omega))
        go_wp2_with fail
        go_ret2
        exact ⟨ret_ii HV.out.symm HR.out.symm, hE2⟩
      rw [hb, Bool.true_and] at Hst
      rw [hb]
      clear hb
      by_cases hs0 : s = 0
      case pos =>
        have hd : (s == 0) = true := by simp [hs0]
        have hS : stIn R.length s = false := by rw [Hst.out]; simp [hs0]
        clear hs0
        have HR := Lib.hid (Hno.out hS)
        have HV : Hid (rndV N R y x p = 0) := Lib.hid (rndV_no (by rw [HR.out]; omega))
        go_wp2_with fail
        go_ret2
        exact ⟨ret_ii HV.out.symm HR.out.symm, hE2⟩
      have hd : (s == 0) = false := by simp [hs0]
      have HN2 := Lib.hid (Hnx.out (by rw [Hst.out, decide_eq_false hs0]; rfl))
      clear Hnx Hno Hst hs0
      go_wp2_with fail
      go_roundw
      case rel => exact ⟨k + 1, by omega, by go_num, hX2, HN2⟩
      case measure => simp [intOf]; omega
    obtain rfl : k = p.length := by omega
    clear hlk
    go_wp2_with fail
    refine (f64_c (p.length : Int) 1 12 _).mono ?_
    rintro e w2 ⟨rfl, rfl⟩
    rcases Bool.eq_false_or_eq_true (withinB (p.length : Int) 1 12) with hwl | hwl
    case inr =>
      have HL := Lib.hid (rndErr_len H0.out HK.out hwl)
      rw [hwl]
      clear hwl
      have HR := Lib.hid (HL.out)
      have HV : Hid (rndV N R y x p = 0) := Lib.hid (rndV_no (by rw [HR.out]; omega))
      go_wp2_with fail
      go_ret2
      exact ⟨ret_ii HV.out.symm HR.out.symm, hE2⟩
    have Hwl := Lib.hid hwl
    have hl12 : 1 ≤ p.length ∧ p.length ≤ 12 := by have := withinB_iff.1 hwl; omega
    rw [hwl]
    clear hwl
    have HIn : Hid (∀ j, j < p.length → StepIn R.length (gi p j)) := Lib.hid (fun j hj => stIn_iff.1 (HK.out j hj))
    have Hbd := Lib.hid (fun k hk => lnTo_bd Hok.out HIn.out k hk)
    have C73 := Lib.hid (fun s hs W (hW : Ext w W) => f73_c s N a R.length c R W (hl.ext hW) rfl Hok.out hs)
    go_wp2_with fail
    refine (f72_c N a R.length c R a2 x.length c2 x _ (hl.ext hE2) rfl h12 (hx.ext hE2) rfl HLe.out).mono ?_
    rintro e w3 ⟨v3, rfl, hO3, hX3⟩
    obtain ⟨a4, c4, e4, hI4⟩ := ints_of_row hO3
    subst e4
    have HI4 := Lib.hid hI4
    have hE3 := hE2.trans' hX3
    have hY3 := hY2.trans' hX3
    have HA := Lib.hid (fun s hs => any_steps (R := R) (f := x) (s := s) hs)
    have hL24 : (stepsTo R x R.length).length ≤ 24 := by have := stepsTo_length R x R.length; omega
    clear hO3 hI4
    generalize stepsTo R x R.length = L at *
    clear g0 g1 hz
    have g0 := (HB.out.ext hY3).cellv 0 (v := .int .i64 N) rfl
    have g1 := (HB.out.ext hY3).cellv 1 (v := .slice a R.length c) rfl
    have hz := (HB.out.ext hY3).lt
    obtain ⟨la, hla⟩ : ∃ la, la = p.length - 1 := ⟨_, rfl⟩
    have hlal : la < p.length := by omega
    have hlai : (p.length : Int) - 1 = (la : Int) := by omega
    obtain ⟨b5, o5, rfl, hb5, hc5⟩ := hp la hlal
    rw [gi_def] at hc5
    have d5 := (hE3.cell' hb5).trans hc5
    have hb5w := Nat.lt_of_lt_of_le hb5 hE3.size
    have hsl := HIn.out la hlal
    have C1 := Lib.hid (fun x' : GW w3 => C73.out (gi p la) hsl x'.world (hE3.trans' x'.ext))
    have Hat0 : Hid (rndAt R p 0 = stTo R (gi p la)) := Lib.hid (by rw [hla]; rfl)
    have Hla := Lib.hid hla
    clear hsl hla hc5
    generalize gi p la = sl at *
    generalize stFr R sl = fl at *
    generalize stTo R sl = tl at *
    generalize stLn R sl = ll at *
    go_wp2_with fail
    refine wp_region_ext (by kernel_rfl) (by kernel_rfl) ?_
    repeat (go_big_quiet_step ((go_at_call 73; exact quiet_ext (C1.out _))))
    refine wpQuiet_nil ?_
    intro w5 hX5
    have hE5 := hE3.trans' hX5
    have hY5 := hY3.trans' hX5
    have HI5 := Lib.hid (HI4.out.ext hX5)
    have hmm := @run_makeMap Try.prog
    have HM0 : Hid (MapB (w5.alloc (.map #[] 0)) w5.heap.size (usedTo p 0) 0) := Lib.hid ((MapB.made w5).congr fun k => (used_zero p k).symm)
    have hX6 : Ext w5 (w5.alloc (.map #[] 0)) := ext_alloc _ _
    have Hl0 : Hid (lnTo R p 0 = 0) := Lib.hid rfl
    clear g0 g1 hz d5 C1 hmm
    have hmm := @run_makeMap Try.prog
    go_wp2_with fail
    generalize hbm : w5.heap.size = bm at *
    have Hbm := Lib.hid hbm
    clear hbm
    go_loopw [16, 19, 79] (fun at_ sm i wr => ∃ q : Nat, q ≤ p.length ∧ i = .int .i64 q ∧ at_ = .int .i64 (rndAt R p q) ∧ sm = .int .i64 (lnTo R p q) ∧ Ext w5 wr ∧ Hid (MapB wr bm (usedTo p q) q) ∧ Hid (rndTo R x p q = true)) (fun _ _ i _ => p.length - (intOf i).toNat)
    case atStart => exact ⟨0, Nat.zero_le _, rfl, by rw [Hat0.out], by rw [Hl0.out], hX6, HM0, Lib.hid rfl⟩
    case round =>
      obtain ⟨q, hq, rfl, rfl, rfl, hX7, HM, HT⟩ := hrel
      have hE7 := hE5.trans' hX7
      have hY7 := hY5.trans' hX7
      have g0 := (HB.out.ext hY7).cellv 0 (v := .int .i64 N) rfl
      have g1 := (HB.out.ext hY7).cellv 1 (v := .slice a R.length c) rfl
      have hz := (HB.out.ext hY7).lt
      by_cases hlq : q < p.length
      case neg =>
        obtain rfl : q = p.length := by omega
        have HR := Lib.hid (rndErr_yes H0.out HK.out Hwl.out HT.out)
        have HV := Lib.hid (rndV_yes HR.out)
        clear HT
        generalize lnTo R p p.length = Sm at *
        generalize rndAt R p p.length = At at *
        go_wp2_with fail
        go_ret2
        exact ⟨ret_ii HV.out.symm HR.out.symm, hE7⟩
      have hsb := Hbd.out q (by omega)
      have Herr := Lib.hid (fun h => rndP_err (c := p) H0.out HK.out hlq h)
      have Hq1 := Lib.hid (fun h => rndP_no1 (R := R) (f := x) (c := p) (i := q) h)
      have Hq2 := Lib.hid (fun h => rndP_no2 (R := R) (f := x) (c := p) (i := q) h)
      have Hq3 := Lib.hid (fun h => rndP_no3 (R := R) (f := x) (c := p) (i := q) h)
      have Hq4 := Lib.hid (fun h1 h2 h3 => rndP_yes (R := R) (f := x) (c := p) (i := q) h1 h2 h3)
      have Hln := Lib.hid (lnTo_succ R p q)
      have Hat1 : Hid (rndAt R p (q + 1) = stTo R (gi p q)) := Lib.hid rfl
      have Hup := Lib.hid (used_upd p q)
      obtain ⟨b6, o6, e6, hb6, hc6⟩ := (hp.ext hE7) q hlq
      simp only [Option.some.injEq, Addr.mk.injEq, and_true] at e6
      obtain ⟨rfl, rfl⟩ := e6
      rw [gi_def] at hc6
      have hs1 := HIn.out q hlq
      have hlnb := stLn_bd Hok.out hs1
      have C1 := Lib.hid (fun W (hE : Ext w W) => C73.out (gi p q) hs1 W hE)
      have C79 := Lib.hid (fun W => f79_c (gi p q) R.length hs1 (by omega) W)
      have HAs := Lib.hid (HA.out (gi p q) hs1)
      have hnb : stepNo (gi p q) < R.length := stepNo_lt hs1
      clear hs1
      have Hp2 := Lib.hid hp
      generalize stFr R (gi p q) = fs at *
      generalize stTo R (gi p q) = ts at *
      generalize stLn R (gi p q) = ls at *
      generalize stOk R x (gi p q) = oks at *
      generalize stepNo (gi p q) = ns at *
      generalize gi p q = s at *
      generalize lnTo R p q = Sm at *
      generalize rndAt R p q = At at *
      go_wp2_with fail
      refine (C1.out _ hE7).mono ?_
      rintro e w8 ⟨rfl, hX8⟩
      have hE8 := hE7.trans' hX8
      have hX78 := hX7.trans' hX8
      have HM8 := Lib.hid (HM.out.ext hX8)
      have HI8 := Lib.hid (HI5.out.ext hX78)
      have hlk := HM8.out.look Try.underlying89 (x := (ns : Int)) (by omega)
      clear g0 g1 hz hc6
      by_cases hne : fs = At
      case neg =>
        have hd : (fs != At) = true := by simp [hne]
        have HR := Lib.hid (Herr.out (Hq1.out hne))
        have HV : Hid (rndV N R y x p = 0) := Lib.hid (rndV_no (by rw [HR.out]; omega))
        clear hne
        go_wp2_with fail
        go_ret2
        exact ⟨ret_ii HV.out.symm HR.out.symm, hE8⟩
      have hd : (fs != At) = false := by simp [hne]
      have Hne := Lib.hid hne
      clear hne
      go_wp2_with fail
      refine (C79.out _).mono ?_
      rintro e w9 ⟨rfl, rfl⟩
      rcases Bool.eq_false_or_eq_true (usedTo p q (ns : Int)) with hu | hu
      case inl =>
        have HR := Lib.hid (Herr.out (Hq2.out hu))
        have HV : Hid (rndV N R y x p = 0) := Lib.hid (rndV_no (by rw [HR.out]; omega))
        rw [hu] at hlk
        clear hu
        go_wp2_with fail
        go_ret2
        exact ⟨ret_ii HV.out.symm HR.out.symm, hE8⟩
      have Hu := Lib.hid hu
      rw [hu] at hlk
      clear hu
      go_wp2_with fail
      refine (f80_c a4 c4 L s w8 HI8.out (by omega)).mono ?_
      rintro e w9 ⟨rfl, rfl⟩
      rw [HAs.out]
      clear hlk
      rcases Bool.eq_false_or_eq_true oks with ho | ho
      case inr =>
        have HR := Lib.hid (Herr.out (Hq3.out ho))
        have HV : Hid (rndV N R y x p = 0) := Lib.hid (rndV_no (by rw [HR.out]; omega))
        rw [ho]
        clear ho
        go_wp2_with fail
        go_ret2
        exact ⟨ret_ii HV.out.symm HR.out.symm, hE8⟩
      have HP := Lib.hid (Hq4.out Hne.out Hu.out ho)
      rw [ho]
      clear ho
      obtain ⟨X, hrun, hXm, hg⟩ := HM8.out.store Try.underlying89 (by omega) (x := (ns : Int)) (v := true) (by omega)
      have hXX : Ext w5 X := hX78.grown hg hX78.size (fun j ej => by simp at ej; have := Hbm.out; omega)
      have HMX : Hid (MapB X bm (usedTo p (q + 1)) (q + 1)) := Lib.hid (hXm.congr Hup.out)
      clear hXm hg
      go_wp2_with fail
      refine (C79.out _).mono ?_
      rintro e w9 ⟨rfl, rfl⟩
      go_wp2_with fail
      go_roundw
      case rel => exact ⟨q + 1, by omega, by go_num, by rw [Hat1.out], by rw [Hln.out], hXX, HMX, Lib.hid (by rw [rndTo_succ, HT.out, HP.out]; rfl)⟩
      case measure => simp [intOf]; omega
end Go.Proofs.Ytbejgbflipoboaa
