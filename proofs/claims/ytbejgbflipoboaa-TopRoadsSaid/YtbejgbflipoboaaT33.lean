/- Contracts of roads: CheckBarrier. -/
import Derived.Test.YtbejgbflipoboaaT15
import Derived.Test.YtbejgbflipoboaaP3
namespace Go.Proofs.Ytbejgbflipoboaa
open Go.RowKit
attribute [local go_sem] GW.cell
section
variable {N : Int} {R : List Road} {x c : List Int}
theorem barErr_exc (h : excErr N R x ≠ 0) : barErr N R x c = excErr N R x := by unfold barErr; rw [if_pos h]
theorem barErr_1 (h : excErr N R x = 0) {i : Nat} (hi : i < c.length) (h2 : barOkAt N c i = false) : barErr N R x c = 1 := by unfold barErr; rw [if_neg (by omega), barOkTo_no h2 hi]; rfl
theorem barErr_7 (h : excErr N R x = 0) (h2 : barOkTo N c c.length = true) (h3 : lessS R x c R.length ≤ 0) : barErr N R x c = 7 := by unfold barErr; rw [if_neg (by omega), if_pos h2, if_pos h3]
theorem barErr_0 (h : excErr N R x = 0) (h2 : barOkTo N c c.length = true) (h3 : ¬ lessS R x c R.length ≤ 0) : barErr N R x c = 0 := by unfold barErr; rw [if_neg (by omega), if_pos h2, if_neg h3]
theorem barAt_1 {i : Nat} (h : withinB (gi c i) 0 (N - 1) = false) : barOkAt N c i = false := by unfold barOkAt; rw [h]; rfl
theorem barAt_2 {i : Nat} (h : 0 < i) (h2 : gi c i ≤ gi c (i - 1)) : barOkAt N c i = false := by unfold barOkAt; rw [decide_eq_false (show ¬ i = 0 by omega), decide_eq_false (show ¬ gi c (i - 1) < gi c i by omega)]; simp
theorem barAt_yes {i : Nat} (h : withinB (gi c i) 0 (N - 1) = true) (h2 : i = 0 ∨ gi c (i - 1) < gi c i) : barOkAt N c i = true := by unfold barOkAt; rw [h]; rcases h2 with h2 | h2 <;> simp [h2]
theorem inSt_upd (k : Nat) (v : Int) : updB (inSt c k) (gi c k) true v = inSt c (k + 1) v := by
  rw [inSt_succ]
  unfold updB
  by_cases e : v = gi c k
  · rw [if_pos e, decide_eq_true e.symm]; simp
  · rw [if_neg e, decide_eq_false (fun h => e h.symm)]; simp
theorem setSum_succ (k : Nat) : setSum x c (k + 1) = setSum x c k + gi x (gi c k).toNat := rfl
theorem lessS_yes {k : Nat} (hk : k < R.length) (h1 : inSt c c.length R[k].fr = true) (h2 : inSt c c.length R[k].to = false) : lessS R x c (k + 1) = lessS R x c k - R[k].wd := by simp only [lessS, rdK_at hk]; rw [h1, h2]; rfl
theorem lessS_no1 {k : Nat} (hk : k < R.length) (h1 : inSt c c.length R[k].fr = false) : lessS R x c (k + 1) = lessS R x c k := by simp only [lessS, rdK_at hk]; rw [h1]; rfl
theorem lessS_no2 {k : Nat} (hk : k < R.length) (h1 : inSt c c.length R[k].to = true) : lessS R x c (k + 1) = lessS R x c k := by simp only [lessS, rdK_at hk]; rw [h1]; simp
end
set_option maxRecDepth 20000 in
set_option maxHeartbeats 16000000 in
theorem f43_c (N : Int) (a : Option Addr) (n c : Nat) (R : List Road) (a1 : Option Addr) (n1 c1 : Nat) (y : List Int) (a2 : Option Addr) (n2 c2 : Nat) (p : List Int) (w : World) (hl : Roads w a R) (hn : R.length = n) (hlen : n ≤ 140737488355328) (hy : Ints w a1 y) (hn1 : y.length = n1) (hlen1 : n1 ≤ 1000000) (hp : Ints w a2 p) (hn2 : p.length = n2) (hlen2 : n2 ≤ 1000000) :
    Calls Try.prog 43 #[.agg #[.int .i64 N, .slice a n c], .slice a1 n1 c1, .slice a2 n2 c2] w fun e w' => e = .returned (.int .i64 (barErr N R y p)) ∧ Ext w w' := by
  subst hn hn1 hn2
  have hE0 := ext_alloc w (.cells #[.int .i64 N, .slice a R.length c] 24)
  have HB := Lib.hid (BlkC.new w #[.int .i64 N, .slice a R.length c] 24)
  have hz := HB.out.lt
  have g0 := HB.out.cellv 0 (v := .int .i64 N) rfl
  have g1 := HB.out.cellv 1 (v := .slice a R.length c) rfl
  go_enter Try.func43, Try.ntmps43
  go_wp2_with fail
  generalize (w.alloc (.cells #[.int .i64 N, .slice a R.length c] 24)) = w0 at *
  refine (f24_c N a R.length c R a1 y.length c1 y _ (hl.ext hE0) rfl hlen (hy.ext hE0) rfl hlen1).mono ?_
  rintro e w1 ⟨rfl, hX1⟩
  have hE1 := hE0.trans' hX1
  by_cases h0 : excErr N R y = 0
  case neg =>
    have hb : (excErr N R y != 0) = true := by simp [h0]
    have HR := Lib.hid (barErr_exc (c := p) h0)
    clear h0
    generalize excErr N R y = E at *
    go_wp2_with fail
    go_ret
    exact ⟨ret_int HR.out.symm, hE1⟩
  obtain ⟨M, rfl⟩ : ∃ M : Nat, N = M := by
    obtain ⟨M, h, _⟩ := exc_nat h0
    exact ⟨M, h⟩
  obtain ⟨hyM, hM⟩ : y.length = M ∧ M ≤ 6 := by
    obtain ⟨M', h, h2, _, _, h6⟩ := exc_nat h0
    omega
  have HyM := Lib.hid hyM
  have Hok : Hid (NetOk (M : Int) R) := Lib.hid (netErr_ok (excErr_ok h0).1)
  have h12 := Hok.out.r12
  have Hyb := Lib.hid (excErr_ok h0).2.2.1
  have H0 := Lib.hid h0
  rw [h0]
  clear h0 hyM
  clear g0 g1 hz
  have g0 := (HB.out.ext hX1).cellv 0 (v := .int .i64 (M : Int)) rfl
  have g1 := (HB.out.ext hX1).cellv 1 (v := .slice a R.length c) rfl
  have hz := (HB.out.ext hX1).lt
  have hmm := @run_makeMap Try.prog
  have HM0 : Hid (MapB (w1.alloc (.map #[] 0)) w1.heap.size (inSt p 0) 0) := Lib.hid ((MapB.made w1).congr fun k => (inSt_zero p k).symm)
  have hX2 : Ext w1 (w1.alloc (.map #[] 0)) := ext_alloc _ _
  have Hs0 : Hid (setSum y p 0 = 0) := Lib.hid rfl
  have Hsb := Lib.hid (fun k => setSum_bd (c := p) Hyb.out k)
  go_wp2_with fail
  generalize hbm : w1.heap.size = bm at *
  have Hbm := Lib.hid hbm
  clear hbm hmm
  go_loopw [9, 23] (fun sm i wr => ∃ k : Nat, k ≤ p.length ∧ i = .int .i64 k ∧ sm = .int .i64 (setSum y p k) ∧ Ext w1 wr ∧ Hid (MapB wr bm (inSt p k) k) ∧ Hid (barOkTo (M : Int) p k = true)) (fun _ i _ => p.length - (intOf i).toNat)
  case atStart => exact ⟨0, Nat.zero_le _, rfl, by rw [Hs0.out], hX2, HM0, Lib.hid rfl⟩
  case round =>
    obtain ⟨k, hk, rfl, rfl, hX3, HM, HK⟩ := hrel
    have hE3 := hE1.trans' hX3
    have hY3 := hX1.trans' hX3
    clear g0 g1 hz
    have g0 := (HB.out.ext hY3).cellv 0 (v := .int .i64 (M : Int)) rfl
    have g1 := (HB.out.ext hY3).cellv 1 (v := .slice a R.length c) rfl
    have hz := (HB.out.ext hY3).lt
    by_cases hlk : k < p.length
    case pos =>
      obtain ⟨b5, o5, e5, hb5, hc5⟩ := (hp.ext hE3) k hlk
      subst e5
      rw [gi_def] at hc5
      have hsb := Hsb.out k
      have Hn1 := Lib.hid (fun h => barErr_1 H0.out hlk (barAt_1 h))
      have Hn2 := Lib.hid (fun h1 h2 => barErr_1 H0.out hlk (barAt_2 h1 h2))
      have Hyes : Hid (withinB (gi p k) 0 ((M : Int) - 1) = true → (k = 0 ∨ gi p (k - 1) < gi p k) → barOkTo (M : Int) p (k + 1) = true) := Lib.hid (fun h1 h2 => by rw [barOkTo_succ, HK.out, barAt_yes h1 h2]; rfl)
      have Hup := Lib.hid (fun v => inSt_upd (c := p) k v)
      have Hsu := Lib.hid (setSum_succ (x := y) (c := p) k)
      have Hpp : Hid (0 < k → ∃ b off, some (⟨b5, o5, none⟩ : Addr) = some ⟨b, off, none⟩ ∧ b < wr.heap.size ∧ wr.cell? ⟨b, off + (k - 1), none⟩ = some (.int .i64 (gi p (k - 1)))) := Lib.hid (fun h => (hp.ext hE3) (k - 1) (by omega))
      generalize gi p (k - 1) = pk at *
      generalize gi p k = s at *
      generalize setSum y p k = Sm at *
      go_wp2_with fail
      refine (f64_c s 0 ((M : Int) - 1) _).mono ?_
      rintro e w4 ⟨rfl, rfl⟩
      rcases Bool.eq_false_or_eq_true (withinB s 0 ((M : Int) - 1)) with hb | hb
      case inr =>
        have HW := Lib.hid (Hn1.out hb)
        rw [hb]
        clear hb
        have HR := Lib.hid (HW.out)
        go_wp2_with fail
        go_ret
        exact ⟨ret_int HR.out.symm, hE3⟩
      have hsM := withinB_iff.1 hb
      have Hwb := Lib.hid hb
      rw [hb]
      clear hb
      obtain ⟨t, rfl⟩ := Int.eq_ofNat_of_zero_le hsM.1
      have hty : t < y.length := by rw [HyM.out]; omega
      obtain ⟨b6, o6, e6, hb6, hc6⟩ := (hy.ext hE3) t hty
      subst e6
      rw [gi_def] at hc6
      have htb := Hyb.out t hty
      have htn : (t : Int).toNat = t := Int.toNat_natCast t
      rw [htn] at Hsu
      clear htn
      obtain ⟨X, hrun, hXm, hg⟩ := HM.out.store Try.underlying89 (by omega) (x := (t : Int)) (v := true) (by omega)
      have hXX : Ext w1 X := hX3.grown hg hX3.size (fun j ej => by simp at ej; have := Hbm.out; omega)
      have HMX : Hid (MapB X bm (inSt p (k + 1)) (k + 1)) := Lib.hid (hXm.congr Hup.out)
      have hEX := hE1.trans' hXX
      have hc7 : X.cell? ⟨b6, o6 + t, none⟩ = some (.int .i64 (gi y t)) := by
        obtain ⟨b7, o7, e7, hb7, hc7⟩ := (hy.ext hEX) t hty
        simp only [Option.some.injEq, Addr.mk.injEq, and_true] at e7
        obtain ⟨rfl, rfl⟩ := e7
        rw [gi_def] at hc7
        exact hc7
      have hb7 := Nat.lt_of_lt_of_le hb6 hg.size
      clear hXm hg Hup hc6
      generalize gi y t = yt at *
      by_cases hk0 : k = 0
      case pos =>
        have hd : decide ((0 : Int) < (k : Int)) = false := decide_eq_false (by omega)
        have hd' : decide (0 < k) = false := decide_eq_false (by omega)
        have HK2 := Lib.hid (Hyes.out Hwb.out (.inl hk0))
        clear Hpp Hn1 Hn2 hk0
        go_wp2_with fail
        go_roundw
        case rel => exact ⟨k + 1, by omega, by go_num, by rw [Hsu.out], hXX, HMX, HK2⟩
        case measure => simp [intOf]; omega
      have hd : decide ((0 : Int) < (k : Int)) = true := decide_eq_true (by omega)
      have hd' : decide (0 < k) = true := decide_eq_true (by omega)
      obtain ⟨b8, o8, e8, hb8, hc8⟩ := Hpp.out (by omega)
      simp only [Option.some.injEq, Addr.mk.injEq, and_true] at e8
      obtain ⟨rfl, rfl⟩ := e8
      have hkk : (k : Int) - 1 = ((k - 1 : Nat) : Int) := by omega
      by_cases hge : (t : Int) ≤ pk
      case pos =>
        have hd2 : decide ((t : Int) ≤ pk) = true := decide_eq_true hge
        have HW := Lib.hid (Hn2.out (by omega) hge)
        clear hge hrun Hpp
        have HR := Lib.hid (HW.out)
        go_wp2_with fail
        go_ret
        exact ⟨ret_int HR.out.symm, hE3⟩
      have hd2 : decide ((t : Int) ≤ pk) = false := decide_eq_false hge
      have HK2 := Lib.hid (Hyes.out Hwb.out (.inr (by omega)))
      clear Hpp Hn1 Hn2 hge
      go_wp2_with fail
      go_roundw
      case rel => exact ⟨k + 1, by omega, by go_num, by rw [Hsu.out], hXX, HMX, HK2⟩
      case measure => simp [intOf]; omega
    obtain rfl : k = p.length := by omega
    clear hlk
    have Hl0 : Hid (setSum y p p.length = lessS R y p 0) := Lib.hid rfl
    have Hlb := Lib.hid (fun j hj => lessS_bd (c := p) Hok.out Hyb.out j hj)
    rw [Hl0.out]
    obtain ⟨wk, rfl⟩ : ∃ wk : World, wk = wr := ⟨_, rfl⟩
    go_wp2_with fail
    go_loopw [9, 59] (fun sm i wr => ∃ j : Nat, j ≤ R.length ∧ i = .int .i64 j ∧ sm = .int .i64 (lessS R y p j) ∧ Ext wk wr) (fun _ i _ => R.length - (intOf i).toNat)
    case atStart => exact ⟨0, Nat.zero_le _, rfl, rfl, Ext.rfl' _⟩
    case round =>
      obtain ⟨j, hj, rfl, rfl, hX4⟩ := hrel
      have hE4 := hE3.trans' hX4
      have hY4 := hY3.trans' hX4
      clear g0 g1 hz
      have g0 := (HB.out.ext hY4).cellv 0 (v := .int .i64 (M : Int)) rfl
      have g1 := (HB.out.ext hY4).cellv 1 (v := .slice a R.length c) rfl
      have hz := (HB.out.ext hY4).lt
      have hlb := Hlb.out j hj
      by_cases hlt : j < R.length
      case neg =>
        obtain rfl : j = R.length := by omega
        by_cases hle : lessS R y p R.length ≤ 0
        case pos =>
          have hd : decide (lessS R y p R.length ≤ 0) = true := decide_eq_true hle
          have HW := Lib.hid (barErr_7 H0.out HK.out hle)
          clear hle
          generalize lessS R y p R.length = Sm at *
          have HR := Lib.hid (HW.out)
          go_wp2_with fail
          go_ret
          exact ⟨ret_int HR.out.symm, hE4⟩
        have hd : decide (lessS R y p R.length ≤ 0) = false := decide_eq_false hle
        have HW := Lib.hid (barErr_0 H0.out HK.out hle)
        clear hle
        generalize lessS R y p R.length = Sm at *
        have HR := Lib.hid (HW.out)
        go_wp2_with fail
        go_ret
        exact ⟨ret_int HR.out.symm, hE4⟩
      obtain ⟨b9, off, e9, hb, c1, c2', c3, c4⟩ := hl.ext hE4 j hlt
      subst e9
      have hfr := Hok.out.fr j hlt
      have hto := Hok.out.to j hlt
      have hwd := Hok.out.wd j hlt
      have Hy1 := Lib.hid (lessS_yes (R := R) (x := y) (c := p) hlt)
      have Hy2 := Lib.hid (lessS_no1 (R := R) (x := y) (c := p) hlt)
      have Hy3 := Lib.hid (lessS_no2 (R := R) (x := y) (c := p) hlt)
      generalize lessS R y p j = Sm at *
      generalize R[j].wd = wd at *
      generalize R[j].fr = fr at *
      generalize R[j].to = tt at *
      generalize R[j].ln = ln at *
      have hXA := ext_alloc wr (.cells #[.int .i64 fr, .int .i64 tt, .int .i64 ln, .int .i64 wd] 55)
      have HT := Lib.hid (BlkC.new wr #[.int .i64 fr, .int .i64 tt, .int .i64 ln, .int .i64 wd] 55)
      have t0 := HT.out.cellv 0 (v := .int .i64 fr) rfl
      have t1 := HT.out.cellv 1 (v := .int .i64 tt) rfl
      have t3 := HT.out.cellv 3 (v := .int .i64 wd) rfl
      have ht9 := HT.out.lt
      have hYA := hX4.trans' hXA
      have HMA := Lib.hid (HM.out.ext hYA)
      have hlk1 := HMA.out.look Try.underlying89 (x := fr) (by omega)
      have hlk2 := HMA.out.look Try.underlying89 (x := tt) (by omega)
      generalize inSt p p.length fr = bf at *
      generalize inSt p p.length tt = bt at *
      rcases Bool.eq_false_or_eq_true bf with h1 | h1
      case inr =>
        have HS := Lib.hid (Hy2.out h1)
        subst h1
        clear Hy1 Hy2 Hy3
        go_wp2_with fail
        go_roundw
        case rel => exact ⟨j + 1, by omega, by go_num, by rw [HS.out], hYA⟩
        case measure => simp [intOf]; omega
      rcases Bool.eq_false_or_eq_true bt with h2 | h2
      case inl =>
        have HS := Lib.hid (Hy3.out h2)
        subst h1 h2
        clear Hy1 Hy2 Hy3
        go_wp2_with fail
        go_roundw
        case rel => exact ⟨j + 1, by omega, by go_num, by rw [HS.out], hYA⟩
        case measure => simp [intOf]; omega
      have HS := Lib.hid (Hy1.out h1 h2)
      subst h1 h2
      clear Hy1 Hy2 Hy3
      go_wp2_with fail
      go_roundw
      case rel => exact ⟨j + 1, by omega, by go_num, by rw [HS.out], hYA⟩
      case measure => simp [intOf]; omega
set_option maxRecDepth 20000 in
set_option maxHeartbeats 16000000 in
theorem f55_c (N : Int) (a : Option Addr) (n c : Nat) (R : List Road) (a1 : Option Addr) (n1 c1 : Nat) (y : List Int) (a2 : Option Addr) (n2 c2 : Nat) (p : List Int) (w : World) (hl : Roads w a R) (hn : R.length = n) (hlen : n ≤ 140737488355328) (hy : Ints w a1 y) (hn1 : y.length = n1) (hlen1 : n1 ≤ 1000000) (hp : Ints w a2 p) (hn2 : p.length = n2) (hlen2 : n2 ≤ 1000000) :
    Calls Try.prog 55 #[.agg #[.int .i64 N, .slice a n c], .slice a1 n1 c1, .slice a2 n2 c2] w fun e w' => e = .returned (.int .i64 (barErr N R y p)) ∧ Ext w w' := by
  obtain ⟨i0, hi0⟩ := info_parts info4
  have Hi := Lib.hid hi0
  clear hi0
  subst hn hn1 hn2
  have hE0 := ext_alloc w (.cells #[.int .i64 N, .slice a R.length c] 24)
  have HB := Lib.hid (BlkC.new w #[.int .i64 N, .slice a R.length c] 24)
  have hz := HB.out.lt
  have g0 := HB.out.cellv 0 (v := .int .i64 N) rfl
  have g1 := HB.out.cellv 1 (v := .slice a R.length c) rfl
  go_enter Try.func55, Try.ntmps55
  go_wp2_with fail
  generalize (w.alloc (.cells #[.int .i64 N, .slice a R.length c] 24)) = w0 at *
  refine (f25_c N a R.length c R a1 y.length c1 y _ (hl.ext hE0) rfl hlen (hy.ext hE0) rfl hlen1).mono ?_
  rintro e w1 ⟨rfl, hX1⟩
  have hE1 := hE0.trans' hX1
  by_cases h0 : excErr N R y = 0
  case neg =>
    have hb : (excErr N R y != 0) = true := by simp [h0]
    have HR := Lib.hid (barErr_exc (c := p) h0)
    clear h0
    generalize excErr N R y = E at *
    go_wp2_with fail
    go_ret
    exact ⟨ret_int HR.out.symm, hE1⟩
  obtain ⟨M, rfl⟩ : ∃ M : Nat, N = M := by
    obtain ⟨M, h, _⟩ := exc_nat h0
    exact ⟨M, h⟩
  obtain ⟨hyM, hM⟩ : y.length = M ∧ M ≤ 6 := by
    obtain ⟨M', h, h2, _, _, h6⟩ := exc_nat h0
    omega
  have HyM := Lib.hid hyM
  have Hok : Hid (NetOk (M : Int) R) := Lib.hid (netErr_ok (excErr_ok h0).1)
  have h12 := Hok.out.r12
  have Hyb := Lib.hid (excErr_ok h0).2.2.1
  have H0 := Lib.hid h0
  rw [h0]
  clear h0 hyM
  clear g0 g1 hz
  have g0 := (HB.out.ext hX1).cellv 0 (v := .int .i64 (M : Int)) rfl
  have g1 := (HB.out.ext hX1).cellv 1 (v := .slice a R.length c) rfl
  have hz := (HB.out.ext hX1).lt
  have C69 := Lib.hid (fun W (hW : Ext w W) b (S : List Bool) (hS : Bools W (some ⟨b, 0, none⟩) S) (hSl : S.length = M) => f69_c M a R.length c R a1 y.length c1 y (some ⟨b, 0, none⟩) M M S W (hl.ext hW) rfl (hy.ext hW) rfl hS hSl H0.out hSl)
  go_wp2_with (at_make; refine wpList_make_full _ rfl (.tmp 17) (.tmp 17) 73 rfl w1.heap.size 4 i0 (.bool false) 1 Try.underlying73 Hi.out.1 Hi.out.2.1 Hi.out.2.2.1 .i64 .i64 M M M rfl rfl rfl rfl (by rw [Hi.out.2.2.2]; omega) (by unfold maxLen; omega) (Nat.le_refl _) ?_; intro w2 hrow hgrow; have hX2 : Ext w1 w2 := (Below.refl _ w1).grown hgrow (Nat.le_refl _) (by simp); have HG0 := Lib.hid hrow; have g0w := (HB.out.ext (hX1.trans' hX2)).cellv 0 (v := .int .i64 (M : Int)) rfl; have hzw := (HB.out.ext (hX1.trans' hX2)).lt; clear hrow hgrow)
  rw [show (Value.bool false).cells = #[.bool false] from rfl, madeB_one] at HG0
  have HG : Hid (OwnB w2 w1.heap.size w1.heap.size M (flagsTo M p 0)) := Lib.hid (by rw [flagsTo_zero]; exact HG0.out)
  generalize hbm : w1.heap.size = bm at *
  have Hbm := Lib.hid hbm
  clear HG0 g0 g1 hz g0w hzw hbm
  go_loopw [9] (fun i wr => ∃ k : Nat, k ≤ p.length ∧ i = .int .i64 k ∧ Ext w1 wr ∧ Hid (OwnB wr bm bm M (flagsTo M p k)) ∧ Hid (barOkTo (M : Int) p k = true)) (fun i _ => p.length - (intOf i).toNat)
  case atStart => exact ⟨0, Nat.zero_le _, rfl, hX2, HG, Lib.hid rfl⟩
  case round =>
    obtain ⟨k, hk, rfl, hX3, HG, HK⟩ := hrel
    have hE3 := hE1.trans' hX3
    have hY3 := hX1.trans' hX3
    have g0 := (HB.out.ext hY3).cellv 0 (v := .int .i64 (M : Int)) rfl
    have g1 := (HB.out.ext hY3).cellv 1 (v := .slice a R.length c) rfl
    have hz := (HB.out.ext hY3).lt
    by_cases hlk : k < p.length
    case neg =>
      obtain rfl : k = p.length := by omega
      have C := Lib.hid (C69.out wr hE3 bm _ HG.out.bools (flagsTo_length _ _ _))
      have HD := Lib.hid (dam_flags (x := y) Hok.out HK.out)
      have HW7 := Lib.hid (fun h => barErr_7 H0.out HK.out h)
      have HW0 := Lib.hid (fun h => barErr_0 H0.out HK.out h)
      clear C69
      generalize damB M R y (flagsTo M p p.length) = D at *
      go_wp2_with fail
      refine C.out.mono ?_
      rintro e w5 ⟨rfl, hX5⟩
      have hE5 := hE3.trans' hX5
      clear C
      rcases Bool.eq_false_or_eq_true D with hD | hD
      case inl =>
        have HW := Lib.hid (HW0.out (by have := HD.out; rw [hD] at this; have := of_decide_eq_true this.symm; omega))
        rw [hD]
        clear hD HD HW7 HW0
        have HR := Lib.hid (HW.out)
        go_wp2_with fail
        go_ret
        exact ⟨ret_int HR.out.symm, hE5⟩
      have HW := Lib.hid (HW7.out (by have := HD.out; rw [hD] at this; have := of_decide_eq_false this.symm; omega))
      rw [hD]
      clear hD HD HW7 HW0
      have HR := Lib.hid (HW.out)
      go_wp2_with fail
      go_ret
      exact ⟨ret_int HR.out.symm, hE5⟩
    obtain ⟨b5, o5, e5, hb5, hc5⟩ := (hp.ext hE3) k hlk
    subst e5
    rw [gi_def] at hc5
    have Hn1 := Lib.hid (fun h => barErr_1 H0.out hlk (barAt_1 h))
    have Hn2 := Lib.hid (fun h1 h2 => barErr_1 H0.out hlk (barAt_2 h1 h2))
    have Hyes : Hid (withinB (gi p k) 0 ((M : Int) - 1) = true → (k = 0 ∨ gi p (k - 1) < gi p k) → barOkTo (M : Int) p (k + 1) = true) := Lib.hid (fun h1 h2 => by rw [barOkTo_succ, HK.out, barAt_yes h1 h2]; rfl)
    have Hset := Lib.hid (fun h => flagsTo_set (M := M) (c := p) (k := k) h)
    have Hpp : Hid (0 < k → ∃ b off, some (⟨b5, o5, none⟩ : Addr) = some ⟨b, off, none⟩ ∧ b < wr.heap.size ∧ wr.cell? ⟨b, off + (k - 1), none⟩ = some (.int .i64 (gi p (k - 1)))) := Lib.hid (fun h => (hp.ext hE3) (k - 1) (by omega))
    have Hc5 : Hid (∀ W, Ext wr W → W.cell? ⟨b5, o5 + k, none⟩ = some (.int .i64 (gi p k)) ∧ b5 < W.heap.size) := Lib.hid (fun W hW => ⟨(hW.cell' hb5).trans hc5, Nat.lt_of_lt_of_le hb5 hW.size⟩)
    generalize gi p (k - 1) = pk at *
    generalize gi p k = s at *
    rcases Bool.eq_false_or_eq_true (withinB s 0 ((M : Int) - 1)) with hb | hb
    case inr =>
      have HW := Lib.hid (Hn1.out hb)
      go_wp2_with fail
      refine wp_region_ext (by kernel_rfl) (by kernel_rfl) ?_
      repeat (go_big_quiet_step ((go_at_call 65; exact quiet_same (f65_c _ _ _ _))))
      refine wpQuiet_nil ?_
      intro w9 hX9
      have HR := Lib.hid (HW.out)
      go_wp2_with fail
      go_ret
      exact ⟨ret_int HR.out.symm, hE3.trans' hX9⟩
    have hsM := withinB_iff.1 hb
    have Hwb := Lib.hid hb
    obtain ⟨t, rfl⟩ := Int.eq_ofNat_of_zero_le hsM.1
    have Hset2 := Lib.hid (Hset.out (by omega))
    rw [Int.toNat_natCast] at Hset2
    have hlf := flagsTo_length M p k
    have Htl : Hid (t < (flagsTo M p k).length) := Lib.hid (by rw [hlf]; omega)
    clear hlf Hset
    generalize flagsTo M p k = Fk at *
    have Hfin : Hid (∀ W, Ext wr W → ∃ v, W.cell? ⟨bm, t, none⟩ = some v ∧ W.frozen? ⟨bm, t, none⟩ = false ∧ bm < W.heap.size ∧ Hid (OwnB (W.setCell ⟨bm, t, none⟩ (.bool true)) bm bm M (flagsTo M p (k + 1))) ∧ Ext w1 (W.setCell ⟨bm, t, none⟩ (.bool true))) := Lib.hid (fun W hW => by
      have hG := HG.out.ext hW
      exact ⟨_, hG.cell Htl.out, hG.froz t, hG.slot.1, Lib.hid (by rw [← Hset2.out]; exact hG.store t true), (hX3.trans' hW).setCell (p := ⟨bm, t, none⟩) (by rw [Hbm.out]; exact Nat.le_refl _) _⟩)
    by_cases hk0 : k = 0
    case pos =>
      have hd : decide ((0 : Int) < (k : Int)) = false := decide_eq_false (by omega)
      have hd' : decide (0 < k) = false := decide_eq_false (by omega)
      have HK2 := Lib.hid (Hyes.out Hwb.out (.inl hk0))
      clear Hpp Hn1 Hn2 hk0
      go_wp2_with fail
      refine wp_region_ext (by kernel_rfl) (by kernel_rfl) ?_
      repeat (go_big_quiet_step ((go_at_call 65; exact quiet_same (f65_c _ _ _ _))))
      refine wpQuiet_nil ?_
      intro w9 hX9
      obtain ⟨v9, q1, q2, q3, HF, hXF⟩ := Hfin.out w9 hX9
      obtain ⟨q4, q5⟩ := Hc5.out w9 hX9
      clear g0 g1 hz hc5 hb
      go_wp2_with fail
      go_roundw
      case rel => exact ⟨k + 1, by omega, by go_num, hXF, HF, HK2⟩
      case measure => simp [intOf]; omega
    have hd : decide ((0 : Int) < (k : Int)) = true := decide_eq_true (by omega)
    have hd' : decide (0 < k) = true := decide_eq_true (by omega)
    obtain ⟨b8, o8, e8, hb8, hc8⟩ := Hpp.out (by omega)
    simp only [Option.some.injEq, Addr.mk.injEq, and_true] at e8
    obtain ⟨rfl, rfl⟩ := e8
    have hkk : (k : Int) - 1 = ((k - 1 : Nat) : Int) := by omega
    by_cases hge : (t : Int) ≤ pk
    case pos =>
      have hd2 : decide ((t : Int) ≤ pk) = true := decide_eq_true hge
      have HW := Lib.hid (Hn2.out (by omega) hge)
      clear hge Hpp
      go_wp2_with fail
      refine wp_region_ext (by kernel_rfl) (by kernel_rfl) ?_
      repeat (go_big_quiet_step ((go_at_call 65; exact quiet_same (f65_c _ _ _ _))))
      refine wpQuiet_nil ?_
      intro w9 hX9
      have HR := Lib.hid (HW.out)
      go_wp2_with fail
      go_ret
      exact ⟨ret_int HR.out.symm, hE3.trans' hX9⟩
    have hd2 : decide ((t : Int) ≤ pk) = false := decide_eq_false hge
    have HK2 := Lib.hid (Hyes.out Hwb.out (.inr (by omega)))
    clear Hpp Hn1 Hn2 hge
    go_wp2_with fail
    refine wp_region_ext (by kernel_rfl) (by kernel_rfl) ?_
    repeat (go_big_quiet_step ((go_at_call 65; exact quiet_same (f65_c _ _ _ _))))
    refine wpQuiet_nil ?_
    intro w9 hX9
    obtain ⟨v9, q1, q2, q3, HF, hXF⟩ := Hfin.out w9 hX9
    obtain ⟨q4, q5⟩ := Hc5.out w9 hX9
    clear g0 g1 hz hc5 hb hc8
    go_wp2_with fail
    go_roundw
    case rel => exact ⟨k + 1, by omega, by go_num, hXF, HF, HK2⟩
    case measure => simp [intOf]; omega
end Go.Proofs.Ytbejgbflipoboaa
