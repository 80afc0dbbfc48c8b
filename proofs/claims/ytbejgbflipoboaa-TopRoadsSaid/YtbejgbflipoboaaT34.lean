/- Contracts of roads: Barrier. -/
import Derived.Test.YtbejgbflipoboaaT33
import Derived.Test.YtbejgbflipoboaaT23
namespace Go.Proofs.Ytbejgbflipoboaa
open Go.RowKit
attribute [local go_sem] GW.cell
theorem row_kept {W X : World} {base : Nat} {e : TypeId} {size k b : Nat} {v : Value} {xs : List Value} (h : W.ownsRow base e size v k xs) (hg : W.grownBy X (some b)) (hb : b < base) : X.ownsRow base e size v k xs := by
  refine ⟨h.1, ?_⟩
  rcases h.2 with h0 | ⟨g, cap, cur, rfl, hbg, hgg, h1, h2, h3⟩
  · exact .inl h0
  · refine .inr ⟨g, cap, cur, rfl, hbg, ?_, h1, h2, h3⟩
    have hlt := (Array.getElem?_eq_some_iff.1 hgg).1
    exact (hg.block g hlt (by intro e; injection e with e; omega)).trans hgg
theorem spread_yes {R : List Road} {S : Int → Bool} {s : Int} (h : S (stFr R s) = true) : spread R S s = updB S (stTo R s) true := by unfold spread; rw [if_pos h]
theorem spread_no {R : List Road} {S : Int → Bool} {s : Int} (h : S (stFr R s) = false) : spread R S s = S := by unfold spread; rw [h]; rfl
theorem fold_take {R : List Road} {L : List Int} {S : Int → Bool} {q : Nat} (h : q < L.length) : (L.take (q + 1)).foldl (spread R) S = spread R ((L.take q).foldl (spread R) S) (gi L q) := by
  rw [List.take_succ_eq_append_getElem h, List.foldl_append, gi_at h]; rfl
theorem barF_no {N : Int} {R : List Road} {x : List Int} (h : excErr N R x ≠ 0) : barF N R x = false := by unfold barF; rw [decide_eq_false h]; rfl
theorem barF_at {M : Nat} {R : List Road} {x : List Int} (h : excErr (M : Int) R x = 0) : barF (M : Int) R x = !okB M R x := by unfold barF okF; rw [decide_eq_true h]; simp
set_option maxRecDepth 20000 in
set_option maxHeartbeats 16000000 in
theorem f41_c (N : Int) (a : Option Addr) (n c : Nat) (R : List Road) (a1 : Option Addr) (n1 c1 : Nat) (y : List Int) (w : World) (hl : Roads w a R) (hn : R.length = n) (hlen : n ≤ 140737488355328) (hy : Ints w a1 y) (hn1 : y.length = n1) (hlen1 : n1 ≤ 1000000) :
    Calls Try.prog 41 #[.agg #[.int .i64 N, .slice a n c], .slice a1 n1 c1] w (RetCheap (barL N R y) (barF N R y) (excErr N R y) w) := by
  subst hn hn1
  obtain ⟨i0, hi0⟩ := info_parts info3
  have Hi := Lib.hid hi0
  clear hi0
  have hE0 := ext_alloc w (.cells #[.int .i64 N, .slice a R.length c] 24)
  have HB := Lib.hid (BlkC.new w #[.int .i64 N, .slice a R.length c] 24)
  have hz := HB.out.lt
  have g0 := HB.out.cellv 0 (v := .int .i64 N) rfl
  have g1 := HB.out.cellv 1 (v := .slice a R.length c) rfl
  go_enter Try.func41, Try.ntmps41
  go_wp2_with fail
  generalize (w.alloc (.cells #[.int .i64 N, .slice a R.length c] 24)) = w0 at *
  refine (f24_c N a R.length c R a1 y.length c1 y _ (hl.ext hE0) rfl hlen (hy.ext hE0) rfl hlen1).mono ?_
  rintro e w1 ⟨rfl, hX1⟩
  have hE1 := hE0.trans' hX1
  by_cases h0 : excErr N R y = 0
  case neg =>
    have hb : (excErr N R y != 0) = true := by simp [h0]
    have HC : Hid (RetCheap (barL N R y) (barF N R y) (excErr N R y) w (.returned (.tuple #[.slice none 0 0, .bool false, .int .i64 (excErr N R y)])) w1) := Lib.hid (by
      have e1 := barF_no h0
      rw [bar_none e1, e1]
      exact ⟨none, 0, rfl, ints_nil _ _, hE1⟩)
    clear h0
    generalize excErr N R y = E at *
    go_wp2_with fail
    go_ret3
    exact HC.out
  obtain ⟨M, rfl⟩ : ∃ M : Nat, N = M := by
    obtain ⟨M, h, _⟩ := exc_nat h0
    exact ⟨M, h⟩
  obtain ⟨hyM, hM1, hM6⟩ : y.length = M ∧ 1 ≤ M ∧ M ≤ 6 := by
    obtain ⟨M', h, h2, _, h5, h6⟩ := exc_nat h0
    omega
  have HyM := Lib.hid hyM
  obtain ⟨b1, o1, rfl⟩ := ints_some hy (by omega)
  have Hok : Hid (NetOk (M : Int) R) := Lib.hid (netErr_ok (excErr_ok h0).1)
  have h12 := Hok.out.r12
  have hS := ship_ok h0
  have C75 := Lib.hid (fun W (hW : Ext w W) => f75_c M 1000 (some ⟨b1, o1, none⟩) 0 0 R b1 o1 c1 y)
  clear C75
  have C75 : Hid (∀ W, Ext w W → Calls Try.prog 75 #[.agg #[.int .i64 (M : Int), .slice a R.length c], .slice (some ⟨b1, o1, none⟩) y.length c1] W (RetShip R.length M (shipV M R y).1 (shipV M R y).2 W)) := Lib.hid (fun W hW => by
    rw [hyM]
    exact f75_c M 1000 a R.length c R b1 o1 c1 y (shipV M R y).1 (shipV M R y).2 W (hl.ext hW) rfl Hok.out (hy.ext hW) hyM hS.run (Nat.le_refl _) (exc_bd h0))
  have HFl := Lib.hid hS.lf
  have HL0 := Lib.hid hS.ll
  have Hz := Lib.hid (okB_iff hS)
  have Hsrc := Lib.hid (fun h => left_source (ok_left h0 hS) h)
  have HbF := Lib.hid (barF_at h0)
  have HbL : Hid (barF (M : Int) R y = true → barL (M : Int) R y = listTo (spreadTo R (stepsTo R (shipV M R y).1 R.length) (startS (shipV M R y).2 M) M) M) := Lib.hid (fun h => by unfold barL; rw [h, Int.toNat_natCast]; rfl)
  have H0 := Lib.hid h0
  rw [h0]
  clear h0 hyM hS
  generalize (shipV M R y).1 = fl at *
  generalize (shipV M R y).2 = lf at *
  clear g0 g1 hz
  have g0 := (HB.out.ext hX1).cellv 0 (v := .int .i64 (M : Int)) rfl
  have g1 := (HB.out.ext hX1).cellv 1 (v := .slice a R.length c) rfl
  have hz := (HB.out.ext hX1).lt
  go_wp2_with fail
  refine (C75.out _ hE1).mono ?_
  rintro e w2 ⟨gf, gl, cl, rfl, hF, hL, _, hX2⟩
  have hE2 := hE1.trans' hX2
  have hY2 := hX1.trans' hX2
  have HF := Lib.hid hF.ints
  have HLf := Lib.hid hL.ints
  have HflR := Lib.hid hF.len
  have HlfM := Lib.hid hL.len
  have C72 := Lib.hid (fun W (hW : Ext w2 W) => f72_c (M : Int) a R.length c R (some ⟨gf, 0, none⟩) R.length R.length fl W (hl.ext (hE2.trans' hW)) rfl h12 (HF.out.ext hW) HflR.out HflR.out)
  have C73 := Lib.hid (fun s hs W (hW : Ext w W) => f73_c s (M : Int) a R.length c R W (hl.ext hW) rfl Hok.out hs)
  have HLin := Lib.hid (stepsTo_in R fl R.length)
  have HL24 : Hid ((stepsTo R fl R.length).length ≤ 24) := Lib.hid (by have := stepsTo_length R fl R.length; omega)
  generalize stepsTo R fl R.length = L at *
  clear C75 hF hL
  have hmm := @run_makeMap Try.prog
  have HM0 : Hid (MapB (w2.alloc (.map #[] 0)) w2.heap.size (startS lf 0) 0) := Lib.hid ((MapB.made w2).congr fun k => rfl)
  have hX3 : Ext w2 (w2.alloc (.map #[] 0)) := ext_alloc _ _
  go_wp2_with fail
  generalize hbm : w2.heap.size = bm at *
  have Hbm := Lib.hid hbm
  clear hbm hmm g0 g1 hz
  go_loopw [35] (fun i wr => ∃ k : Nat, k ≤ M ∧ i = .int .i64 k ∧ Ext w2 wr ∧ ∃ m : Nat, m ≤ k ∧ Hid (MapB wr bm (startS lf k) m) ∧ Hid (m = 0 ∨ ∃ j, j < k ∧ 0 < gi lf j)) (fun i _ => M - (intOf i).toNat)
  case atStart => exact ⟨0, Nat.zero_le _, rfl, hX3, 0, Nat.le_refl _, HM0, Lib.hid (.inl rfl)⟩
  case round =>
    obtain ⟨k, hk, rfl, hX4, m, hm, HM, Hm⟩ := hrel
    have hE4 := hE2.trans' hX4
    have hY4 := hY2.trans' hX4
    have g0 := (HB.out.ext hY4).cellv 0 (v := .int .i64 (M : Int)) rfl
    have g1 := (HB.out.ext hY4).cellv 1 (v := .slice a R.length c) rfl
    have hz := (HB.out.ext hY4).lt
    by_cases hlk : k < M
    case pos =>
      obtain ⟨b5, o5, e5, hb5, hc5⟩ := (HLf.out.ext hX4) k (by rw [HlfM.out]; exact hlk)
      simp only [Option.some.injEq, Addr.mk.injEq, and_true] at e5
      obtain ⟨rfl, rfl⟩ := e5
      rw [gi_def, Nat.zero_add] at hc5
      have Hs1 := Lib.hid (fun h v => startS_upd (lf := lf) (k := k) h v)
      have Hs2 := Lib.hid (fun h v => startS_same (lf := lf) (k := k) h v)
      have Hm2 : Hid (0 < gi lf k → ∃ j, j < k + 1 ∧ 0 < gi lf j) := Lib.hid (fun h => ⟨k, by omega, h⟩)
      have Hm3 : Hid (m = 0 ∨ ∃ j, j < k + 1 ∧ 0 < gi lf j) := Lib.hid (by
        rcases Hm.out with h | ⟨j, h1, h2⟩
        · exact .inl h
        · exact .inr ⟨j, by omega, h2⟩)
      clear Hm
      generalize gi lf k = v at *
      by_cases hv : 0 < v
      case pos =>
        have hd : decide (0 < v) = true := decide_eq_true hv
        obtain ⟨X, hrun, hXm, hg⟩ := HM.out.store Try.underlying89 (by omega) (x := (k : Int)) (v := true) (by omega)
        have hXX : Ext w2 X := hX4.grown hg hX4.size (fun j ej => by simp at ej; have := Hbm.out; omega)
        have HMX : Hid (MapB X bm (startS lf (k + 1)) (m + 1)) := Lib.hid (hXm.congr (Hs1.out hv))
        have Hm4 := Lib.hid (Or.inr (a := m + 1 = 0) (Hm2.out hv))
        clear hXm hg hv
        go_wp2_with fail
        go_roundw
        case rel => exact ⟨k + 1, by omega, by go_num, hXX, m + 1, by omega, HMX, Hm4⟩
        case measure => simp [intOf]; omega
      have hd : decide (0 < v) = false := decide_eq_false hv
      have HMX : Hid (MapB wr bm (startS lf (k + 1)) m) := Lib.hid (HM.out.congr (Hs2.out hv))
      clear hv
      go_wp2_with fail
      go_roundw
      case rel => exact ⟨k + 1, by omega, by go_num, hX4, m, by omega, HMX, Hm3⟩
      case measure => simp [intOf]; omega
    obtain rfl : k = M := by omega
    obtain ⟨s, hlenr, hs1, hs2⟩ := HM.out.len Try.underlying89 3
    have Hs2 := Lib.hid hs2
    clear hs2 hlk
    rcases Bool.eq_false_or_eq_true (okB k R y) with hb | hb
    case inl =>
      have hm0 : m = 0 := by
        have h1 := Hz.out.1 hb
        rcases Hm.out with h | ⟨j, h2, h3⟩
        · exact h
        · have := h1 j h2; omega
      have hs0 : (s : Int) = 0 := by omega
      have HC : Hid (RetCheap (barL (k : Int) R y) (barF (k : Int) R y) (excErr (k : Int) R y) w (.returned (.tuple #[.slice none 0 0, .bool false, .int .i64 0])) wr) := Lib.hid (by
        have e1 : barF (k : Int) R y = false := by rw [HbF.out, hb]; rfl
        rw [bar_none e1, e1, H0.out]
        exact ⟨none, 0, rfl, ints_nil _ _, hE4⟩)
      rw [hs0] at hlenr
      clear hm0 hs0 hs1 hb hm
      go_wp2_with fail
      go_ret3
      exact HC.out
    have hs0 : 0 < s := by
      obtain ⟨v, hv, hv2⟩ := Hsrc.out (fun h => by have := Hz.out.2 h; rw [hb] at this; simp at this)
      exact Hs2.out (v : Int) (wf_smallB (by omega)) (startS_at hv hv2)
    have hd : ((s : Int) == 0) = false := by rw [beq_eq_false_iff_ne]; omega
    have HbF1 : Hid (barF (k : Int) R y = true) := Lib.hid (by rw [HbF.out, hb]; rfl)
    have HbL1 := Lib.hid (HbL.out HbF1.out)
    have HM1 : Hid (MapB wr bm (spreadTo R L (startS lf k) 0) m) := HM
    clear Hm hb hs0 Hs2 Hz Hsrc HbF HbL HM hs1
    generalize startS lf k = S0 at *
    obtain ⟨wk, rfl⟩ : ∃ wk : World, wk = wr := ⟨_, rfl⟩
    go_wp2_with fail
    clear hd hlenr
    go_loopw [50] (fun i wr => ∃ j : Nat, j ≤ k ∧ i = .int .i64 j ∧ Ext w2 wr ∧ ∃ m : Nat, m ≤ 6 + 24 * j ∧ Hid (MapB wr bm (spreadTo R L S0 j) m)) (fun i _ => k - (intOf i).toNat)
    case atStart => exact ⟨0, Nat.zero_le _, rfl, hX4, m, by omega, HM1⟩
    case round =>
      obtain ⟨j, hj, rfl, hX5, m, hm, HM⟩ := hrel
      have hE5 := hE2.trans' hX5
      have hY5 := hY2.trans' hX5
      clear g0 g1 hz
      have g0 := (HB.out.ext hY5).cellv 0 (v := .int .i64 (k : Int)) rfl
      have g1 := (HB.out.ext hY5).cellv 1 (v := .slice a R.length c) rfl
      have hz := (HB.out.ext hY5).lt
      have hbw := HM.out.lt
      obtain ⟨wj, rfl⟩ : ∃ wj : World, wj = wr := ⟨_, rfl⟩
      by_cases hlj : j < k
      case pos =>
        have Hnext : Hid (spreadTo R L S0 (j + 1) = L.foldl (spread R) (spreadTo R L S0 j)) := Lib.hid rfl
        have HQ0 : Hid (MapB wj bm ((L.take 0).foldl (spread R) (spreadTo R L S0 j)) m) := HM
        generalize spreadTo R L S0 j = Sj at *
        go_wp2_with fail
        refine (C72.out _ hX5).mono ?_
        rintro e w6 ⟨v6, rfl, hO6, hX6⟩
        obtain ⟨a6, c6, rfl⟩ := slice_form hO6
        have HO6 := Lib.hid hO6
        have HQ6 := Lib.hid (HQ0.out.ext hX6)
        have hX26 := hX5.trans' hX6
        have hL24 := HL24.out
        have hsz6 := hX6.size
        clear hO6
        go_wp2_with fail
        go_loopw [56] (fun i wr => ∃ q : Nat, q ≤ L.length ∧ i = .int .i64 q ∧ Ext w2 wr ∧ (∃ m : Nat, m ≤ 6 + 24 * j + q ∧ Hid (MapB wr bm ((L.take q).foldl (spread R) Sj) m)) ∧ Hid (wr.ownsRow wj.heap.size 78 1 (.slice a6 L.length c6) L.length (L.map (.int .i64)))) (fun i _ => L.length - (intOf i).toNat)
        case atStart => exact ⟨0, Nat.zero_le _, rfl, hX26, ⟨m, by omega, HQ6⟩, HO6⟩
        case round =>
          obtain ⟨q, hq, rfl, hX7, ⟨m, hm, HM⟩, HO⟩ := hrel
          have hE7 := hE2.trans' hX7
          have hY7 := hY2.trans' hX7
          clear g0 g1 hz
          have g0 := (HB.out.ext hY7).cellv 0 (v := .int .i64 (k : Int)) rfl
          have g1 := (HB.out.ext hY7).cellv 1 (v := .slice a R.length c) rfl
          have hz := (HB.out.ext hY7).lt
          by_cases hlq : q < L.length
          case neg =>
            obtain rfl : q = L.length := by omega
            have HMf : Hid (MapB wr bm (spreadTo R L S0 (j + 1)) m) := Lib.hid (by have := HM.out; rw [List.take_length] at this; rw [Hnext.out]; exact this)
            go_wp2_with fail
            go_roundw
            case rel => exact ⟨j + 1, by omega, by go_num, hX7, m, by omega, HMf⟩
            case measure => simp [intOf]; omega
          obtain ⟨ad, cp, he, hI⟩ := ints_of_row HO.out
          have he' : a6 = ad := by injection he
          subst he'
          obtain ⟨b5, o5, e5, hb5, hc5⟩ := hI q hlq
          subst e5
          rw [gi_def] at hc5
          have hsin := HLin.out (gi L q) (by rw [gi_at hlq]; exact List.getElem_mem _)
          have C1 := Lib.hid (fun W (hW : Ext w W) => C73.out (gi L q) hsin W hW)
          have hfr := stFr_bd Hok.out hsin
          have hto := stTo_bd Hok.out hsin
          have Hft := Lib.hid (fold_take (R := R) (S := Sj) hlq)
          have Hy1 := Lib.hid (fun h => spread_yes (R := R) (S := (L.take q).foldl (spread R) Sj) (s := gi L q) h)
          have Hy2 := Lib.hid (fun h => spread_no (R := R) (S := (L.take q).foldl (spread R) Sj) (s := gi L q) h)
          clear hsin he hI
          generalize (L.take q).foldl (spread R) Sj = Sq at *
          generalize spread R Sq (gi L q) = Sq1 at *
          generalize gi L q = s at *
          generalize stFr R s = fr at *
          generalize stTo R s = tt at *
          generalize stLn R s = ln at *
          go_wp2_with fail
          refine (C1.out _ hE7).mono ?_
          rintro e w8 ⟨rfl, hX8⟩
          have hX28 := hX7.trans' hX8
          have HM8 := Lib.hid (HM.out.ext hX8)
          have HO8 := Lib.hid (row_ext HO.out hX8)
          have hlk := HM8.out.look Try.underlying89 (x := fr) (by omega)
          rcases Bool.eq_false_or_eq_true (Sq fr) with hq1 | hq1
          case inr =>
            have e1 := Hy2.out hq1
            have HMn : Hid (MapB w8 bm ((L.take (q + 1)).foldl (spread R) Sj) m) := Lib.hid (by rw [Hft.out, e1]; exact HM8.out)
            rw [hq1] at hlk
            clear hq1 e1 Hy1 Hy2
            go_wp2_with fail
            go_roundw
            case rel => exact ⟨q + 1, by omega, by go_num, hX28, ⟨m, by omega, HMn⟩, HO8⟩
            case measure => simp [intOf]; omega
          have e1 := Hy1.out hq1
          rw [hq1] at hlk
          obtain ⟨X, hrun, hXm, hg⟩ := HM8.out.store Try.underlying89 (by omega) (x := tt) (v := true) (by omega)
          have hXX : Ext w2 X := hX28.grown hg hX28.size (fun j ej => by simp at ej; have := Hbm.out; omega)
          have HMn : Hid (MapB X bm ((L.take (q + 1)).foldl (spread R) Sj) (m + 1)) := Lib.hid (by rw [Hft.out, e1]; exact hXm)
          have HOn := Lib.hid (row_kept HO8.out hg hbw)
          clear hq1 e1 Hy1 Hy2 hXm hg
          go_wp2_with fail
          go_roundw
          case rel => exact ⟨q + 1, by omega, by go_num, hXX, ⟨m + 1, by omega, HMn⟩, HOn⟩
          case measure => simp [intOf]; omega
      obtain rfl : j = k := by omega
      clear hlj
      generalize spreadTo R L S0 j = Sf at *
      have HLs := Lib.hid (listTo_succ Sf)
      have HLb := Lib.hid (listTo_length Sf)
      go_wp2_with fail
      go_loopw [18, 76] (fun v i wr => ∃ q : Nat, q ≤ j ∧ i = .int .i64 q ∧ Ext wj wr ∧ Hid (MapB wr bm Sf m) ∧ Hid (wr.ownsRow wj.heap.size 3 1 v (listTo Sf q).length ((listTo Sf q).map (.int .i64)))) (fun _ i _ => j - (intOf i).toNat)
      case atStart => exact ⟨0, Nat.zero_le _, rfl, Ext.rfl' _, HM, Lib.hid (World.ownsRow_nil _ _ _ _)⟩
      case round =>
        obtain ⟨q, hq, rfl, hX7, HM2, HO⟩ := hrel
        have hE7 := hE5.trans' hX7
        by_cases hlq : q < j
        case neg =>
          obtain rfl : q = j := by omega
          obtain ⟨ad, cp, hev, hI⟩ := ints_of_row HO.out
          subst hev
          have HR : Hid (RetCheap (barL (q : Int) R y) (barF (q : Int) R y) (excErr (q : Int) R y) w (.returned (.tuple #[.slice ad (listTo Sf q).length cp, .bool true, .int .i64 0])) wr) := Lib.hid (by
            rw [HbF1.out, HbL1.out, H0.out]
            exact ⟨_, _, rfl, hI, hE7⟩)
          clear HbF1 HbL1 hI HO
          go_wp2_with fail
          go_ret3
          exact HR.out
        have hlk := HM2.out.look Try.underlying89 (x := (q : Int)) (by omega)
        have Ht := Lib.hid (HLs.out q)
        have hll := HLb.out q
        have hne := row_old HO.out hbw
        generalize listTo Sf q = Lq at *
        rcases Bool.eq_false_or_eq_true (Sf (q : Int)) with hc | hc
        · rw [hc] at hlk Ht
          rw [if_pos rfl] at Ht
          clear hc
          go_wp2_with (at_builtin; (refine wpList_push1 (x := (q : Int)) rfl (.tmp 82) (.tmp 84) 25 rfl Hi.out Try.underlying25 rfl rfl HO.out (by omega) hX7.size ?_; intro v10 w10 H10 hgrow _; have hY10 := ext_append hX7 HO.out (Nat.le_refl _) hgrow))
          go_roundw
          case rel => exact ⟨q + 1, by omega, by go_num, hY10, Lib.hid ((HM2.out.ext (ext_alloc _ _)).kept hgrow hne), Lib.hid (by rw [Ht.out, List.length_append]; exact H10)⟩
          case measure => simp [intOf]; omega
        · rw [hc] at hlk Ht
          rw [if_neg (by simp), List.append_nil] at Ht
          clear hc
          go_wp2_with fail
          go_roundw
          case rel => exact ⟨q + 1, by omega, by go_num, hX7, HM2, Lib.hid (by rw [Ht.out]; exact HO.out)⟩
          case measure => simp [intOf]; omega
end Go.Proofs.Ytbejgbflipoboaa
