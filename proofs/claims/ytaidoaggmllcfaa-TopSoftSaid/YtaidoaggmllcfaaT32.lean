/- Contracts of ship: prices. -/
import Derived.Test.YtaidoaggmllcfaaT31
import Derived.Test.YtaidoaggmllcfaaGA
namespace Go.Proofs.Ytaidoaggmllcfaa
open Go.RowKit
attribute [local go_sem] GW.cell

/-- what ship.Prices hands back: two lists of the call's own -/
def RetPS (n m : Nat) (X : PS) (w : World) (e : Ending) (w' : World) : Prop :=
  ∃ gA gB, e = .returned (.tuple #[.slice (some ⟨gA, 0, none⟩) n n, .slice (some ⟨gB, 0, none⟩) m m]) ∧ OwnG w' 3 w.heap.size gA n n X.rs ∧ OwnG w' 3 w.heap.size gB m m X.cs ∧ Ext w w'
set_option maxRecDepth 20000 in
set_option maxHeartbeats 16000000 in
theorem f115_c (cx px : Option Addr) (n m cc cp : Nat) (c P : Tbl) (w : World) (hc : Table w cx c) (hp : Table w px P) (Hc : TOk n m 0 99 c) (HP : TOk n m 0 150000 P) :
    Calls Try.prog 115 #[.slice cx n cc, .slice px n cp] w (RetPS n m (pricesT (tg c) (tg P) n m) w) := by
  have hn1 := Hc.n1
  have hn5 := Hc.n5
  have hm1 := Hc.m1
  have hm5 := Hc.m5
  obtain ⟨i0, hi0⟩ := infoI
  have Hi := Lib.hid hi0
  clear hi0
  have HC := Lib.hid Hc
  have HPp := Lib.hid HP
  have hcn : c.length ≤ n ∧ n ≤ c.length := by have := Hc.len; omega
  have hpn : P.length ≤ n ∧ n ≤ P.length := by have := HP.len; omega
  have HOk := Lib.hid (fun r => reachP_ok (c := tg c) (P := tg P) (zeroP_ok n m) Hc.bd hn5 hm5 r)
  obtain ⟨b0, o0, a0, c0, e0, hb0, hc0, -⟩ := hc 0 (by omega)
  subst e0
  have hm := HC.out.cols 0 (by omega)
  rw [row_at (by omega)] at hm
  rw [hm] at hc0
  simp only [Nat.add_zero] at hc0
  clear Hc HP hm
  have hn0 : 0 < n := hn1
  unfold pricesT
  go_enter Try.func115, Try.ntmps115
  go_wp2_with fail
  go_cut [4, 5] from 10 to 17 (fun vA vF wx => ∃ gA gF, vA = .slice (some ⟨gA, 0, none⟩) n n ∧ vF = .slice (some ⟨gF, 0, none⟩) m m ∧ Hid (OwnG wx 3 w.heap.size gA n n (List.replicate n 0)) ∧ Hid (OwnG wx 3 w.heap.size gF m m (List.replicate m 0)) ∧ gA ≠ gF ∧ Ext w wx)
  case first =>
    go_region_held3 (fun w' => w'.cell? ⟨b0, o0, none⟩ = some (.slice a0 m c0)) (first | assumption | go_keep)
      (first
        | (refine upon_make w.heap.size 3 i0 (.int .i64 0) 1 Try.underlying31 Hi.out.1 Hi.out.2.1 Hi.out.2.2.1 (by rw [Hi.out.2.2.2]; omega) (by unfold maxLen; omega) (by first | exact hXm.size | exact (ext_drew _).size) ?_
           intro wm hom hgrow
           first
             | (have hXn : Ext wo1 wm := (Below.refl _ _).grown hgrow (Nat.le_refl _) (by simp)
                have hXk := hXm.trans' hXn
                have gm2 := (hXk.cell' hb0).trans hc0)
             | (have hXm : Ext w wm := (ext_drew _).trans' ((Below.refl _ _).grown hgrow (Nat.le_refl _) (by simp))
                obtain ⟨wo1, hwo1⟩ : ∃ wo1 : World, wo1 = wm := ⟨_, rfl⟩
                subst hwo1
                have hom1 := hom
                clear hom
                have gm1 := (hXm.cell' hb0).trans hc0)))
    · have hF := (made_own hom1).ext hXn
      have hF2 := made_own hom
      have hF3 := (made_own hom1).slot
      go_wp2_with fail
      go_meet
      case rel => exact ⟨_, _, rfl, rfl, Lib.hid hF, Lib.hid hF2, by simp at hF3 ⊢; omega, hXk⟩
    · have hF := (made_own hom1).ext hXn
      have hF2 := made_own hom
      have hF3 := (made_own hom1).slot
      go_wp2_with fail
      go_meet
      case rel => exact ⟨_, _, rfl, rfl, Lib.hid hF2, Lib.hid hF, by simp at hF3 ⊢; omega, hXk⟩
  case rest =>
    obtain ⟨gA, gB, rfl, rfl, KA, KB, hAB, hX⟩ := hcut
    have H0 : Hid ((⟨List.replicate n 0, List.replicate m 0⟩ : PS) = ⟨List.replicate n 0, List.replicate m 0⟩) := Lib.hid rfl
    generalize hst0 : (⟨List.replicate n 0, List.replicate m 0⟩ : PS) = st0 at *
    have KA0 : Hid (OwnG wc 3 w.heap.size gA n n st0.rs) := Lib.hid (by rw [← hst0]; exact KA.out)
    have KB0 : Hid (OwnG wc 3 w.heap.size gB m m st0.cs) := Lib.hid (by rw [← hst0]; exact KB.out)
    clear H0 hst0 KA KB hb0 hc0 hn0
    go_wp2_with fail
    go_loopw [23] (fun i wr => ∃ r : Nat, r ≤ n + m ∧ i = .int .i64 r ∧ Ext w wr ∧ Hid (OwnG wr 3 w.heap.size gA n n (reachP (tg c) (tg P) n m st0 r).rs) ∧ Hid (OwnG wr 3 w.heap.size gB m m (reachP (tg c) (tg P) n m st0 r).cs)) (fun i _ => n + m - (intOf i).toNat)
    case atStart => exact ⟨0, Nat.zero_le _, rfl, hX, KA0, KB0⟩
    case round =>
      obtain ⟨r, hr, rfl, hX, KA, KB⟩ := hrel
      clear KA0 KB0
      by_cases hltr : r < n + m
      case neg =>
        obtain rfl : r = n + m := by omega
        have hd : decide (((n + m : Nat) : Int) < (n : Int) + (m : Int)) = false := by simp
        have HR : Hid (RetPS n m (reachP (tg c) (tg P) n m st0 (n + m)) w (.returned (.tuple #[.slice (some ⟨gA, 0, none⟩) n n, .slice (some ⟨gB, 0, none⟩) m m])) wr) := Lib.hid ⟨gA, gB, rfl, KA.out, KB.out, hX⟩
        go_wp2_with fail
        go_ret2
        exact HR.out
      have hd : decide ((r : Int) < (n : Int) + (m : Int)) = true := by simp; omega
      have Hnext : Hid (reachP (tg c) (tg P) n m st0 (r + 1) = relP (tg c) (tg P) m (reachP (tg c) (tg P) n m st0 r) (n * m)) := Lib.hid rfl
      have HOkR := Lib.hid (HOk.out r)
      generalize reachP (tg c) (tg P) n m st0 r = X at *
      go_wp2_with fail
      go_loopw [27] (fun i wr => ∃ p : Nat, p ≤ n ∧ i = .int .i64 p ∧ Ext w wr ∧ Hid (OwnG wr 3 w.heap.size gA n n (relP (tg c) (tg P) m X (p * m)).rs) ∧ Hid (OwnG wr 3 w.heap.size gB m m (relP (tg c) (tg P) m X (p * m)).cs)) (fun i _ => n - (intOf i).toNat)
      case atStart => exact ⟨0, Nat.zero_le _, rfl, hX, by rw [Nat.zero_mul]; exact KA, by rw [Nat.zero_mul]; exact KB⟩
      case round =>
        obtain ⟨p, hp1, rfl, hX, KA, KB⟩ := hrel
        by_cases hltp : p < n
        case neg =>
          obtain rfl : p = n := by omega
          rw [← Hnext.out] at KA KB
          go_wp2_with fail
          go_roundw
          case rel => exact ⟨r + 1, by omega, by go_num, hX, KA, KB⟩
          case measure => simp [intOf]; omega
        obtain ⟨b3, o3, a3, c3, e3, hb3, hc3, hI3⟩ := hc p (by omega)
        simp only [Option.some.injEq, Addr.mk.injEq, and_true] at e3
        obtain ⟨rfl, rfl⟩ := e3
        have hcc := (hX.cell' hb3).trans hc3
        have hlen3 : c[p].length = m := by have := HC.out.cols p hltp; rw [row_at (by omega)] at this; exact this
        rw [hlen3] at hcc
        have Hl3 := Lib.hid hlen3
        have Hrow3 : Hid (Ints w a3 (row c p)) := Lib.hid (by rw [row_at (by omega)]; exact hI3)
        obtain ⟨b4, o4, a4, c4, rfl, hb4, hc4, hI4⟩ := hp p (by omega)
        have hlen4 : P[p].length = m := by have := HPp.out.cols p hltp; rw [row_at (by omega)] at this; exact this
        rw [hlen4] at hc4
        have Hl4 := Lib.hid hlen4
        have Hrow4 : Hid (Ints w a4 (row P p)) := Lib.hid (by rw [row_at (by omega)]; exact hI4)
        clear hc3 hI3 hlen3 hI4 hlen4
        go_wp2_with fail
        go_loopg [34] m (fun gk i wr => ∃ j : Nat, j + gk = m ∧ i = .int .i64 j ∧ Ext w wr ∧ Hid (OwnG wr 3 w.heap.size gA n n (relP (tg c) (tg P) m X (p * m + j)).rs) ∧ Hid (OwnG wr 3 w.heap.size gB m m (relP (tg c) (tg P) m X (p * m + j)).cs))
        case atStart => exact ⟨0, by omega, rfl, hX, KA, KB⟩
        case round =>
          obtain ⟨j, hj, rfl, hX, KA, KB⟩ := hrel
          by_cases hltj : j < m
          case neg =>
            obtain rfl : j = m := by omega
            have hmul : p * j + j = (p + 1) * j := by rw [Nat.add_mul, Nat.one_mul]
            rw [hmul] at KA KB
            clear hmul
            go_wp2_with fail
            go_roundw
            case rel => exact ⟨p + 1, by omega, by go_num, hX, KA, KB⟩
            case measure => simp [intOf]; omega
          have hjm := lt_at hltp hltj
          have ham := area_le hn5 hm5
          obtain ⟨b5, o5, rfl, hb5, hc5⟩ := Hrow3.out.ext hX j (by rw [row_at (by omega), Hl3.out]; exact hltj)
          rw [← gi_at, show gi (row c p) j = tg c p j from rfl] at hc5
          obtain ⟨b6, o6, rfl, hb6, hc6⟩ := Hrow4.out j (by rw [row_at (by omega), Hl4.out]; exact hltj)
          rw [← gi_at, show gi (row P p) j = tg P p j from rfl] at hc6
          have hcb := HC.out.bd p j hltp hltj
          have Hsucc := Lib.hid (relP_at (c := tg c) (P := tg P) (i := p) hltj X)
          have HY : Hid (PsOk n m 1000 (relP (tg c) (tg P) m X (p * m + j))) := Lib.hid ((relP_ok HOkR.out HC.out.bd (p * m + j) (by omega)).mono (by omega))
          clear hjm ham
          generalize relP (tg c) (tg P) m X (p * m + j) = Y at *
          generalize tg c p j = cc2 at *
          generalize tg P p j = pp at *
          have y1 := HY.out.b1 p
          have y2 := HY.out.b2 j
          have a1 := KA.out.cellg hltp
          have a2 := KB.out.cellg hltj
          have z1 := KA.out.slot
          have z2 := KB.out.slot
          obtain ⟨g2, rfl⟩ : ∃ g2, gk = g2 + 1 := ⟨gk - 1, by omega⟩
          have HZ := Lib.hid (stepC_ok (i := p) HY.out hcb hltj)
          generalize hu : gi Y.rs p = u at *
          generalize hv : gi Y.cs j = v at *
          have Hu := Lib.hid hu
          have Hv := Lib.hid hv
          have HSC : Hid (stepC cc2 p j Y = ⟨Y.rs, Y.cs.set j (min v (cc2 - u))⟩) := Lib.hid (by rw [← hu, ← hv]; rfl)
          clear hu hv
          go_wp2_with fail
          go_cut [] from 35 to 75 (fun wx => Ext w wx ∧ Hid (OwnG wx 3 w.heap.size gA n n (stepC cc2 p j Y).rs) ∧ Hid (OwnG wx 3 w.heap.size gB m m (stepC cc2 p j Y).cs))
          case first =>
            refine wp_region_ext_tail 14 (by kernel_rfl) (by kernel_rfl) ?_
            simp only [List.take_succ_cons, List.take_zero, List.drop_succ_cons, List.drop_zero]
            repeat (go_big_quiet_step (fail))
            refine wpQuiet_nil ?_
            intro w6 hX6
            have KA6 := Lib.hid (KA.out.ext hX6)
            have KB6 := Lib.hid (KB.out.ext hX6)
            have f1 := KB6.out.froz j
            have c1 := KB6.out.cellg hltj
            have z3 := KB6.out.slot
            have KA7 : Hid (OwnG _ 3 w.heap.size gA n n (stepC cc2 p j Y).rs) := Lib.hid (by rw [HSC.out]; exact KA6.out.other (g' := gB) (by omega) j (.int .i64 (min v (cc2 - u))))
            have KB7 : Hid (OwnG _ 3 w.heap.size gB m m (stepC cc2 p j Y).cs) := Lib.hid (by rw [HSC.out]; exact KB6.out.store j (min v (cc2 - u)))
            have hX7 : Ext w _ := (hX.trans' hX6).setCell (p := ⟨gB, j, none⟩) z3.2.2 (.int .i64 (min v (cc2 - u)))
            rw [Hv.out] at c1
            clear KA6 KB6 HSC
            generalize min v (cc2 - u) = mm at *
            go_wp2_with fail
            go_meet
            case rel => exact ⟨hX7, KA7, KB7⟩
          case rest =>
            obtain ⟨hX7, KA, KB⟩ := hcut
            obtain ⟨w7, rfl⟩ : ∃ w7 : World, w7 = wc := ⟨_, rfl⟩
            have q1 := (hX7.cell' hb4).trans hc4
            have q2 := (hX7.cell' hb6).trans hc6
            have HZ2 : Hid (PsOk n m 1001 (stepC cc2 p j Y)) := HZ
            clear HZ HSC Hu Hv a1 a2 hX hcc hc5
            generalize stepC cc2 p j Y = Z at *
            by_cases hpp : 0 < pp
            case neg =>
              have d1 : decide (0 < pp) = false := decide_eq_false hpp
              have hs : stepD cc2 pp p j Z = Z := if_neg hpp
              rw [hs] at Hsucc
              rw [← Hsucc.out] at KA KB
              clear hs hpp
              go_wp2_with fail
              go_roundg g2
              case measure => omega
              case rel => exact ⟨j + 1, by omega, by go_num, hX7, KA, KB⟩
            have d1 : decide (0 < pp) = true := decide_eq_true hpp
            have y1 := HZ2.out.b1 p
            have y2 := HZ2.out.b2 j
            have a1 := KA.out.cellg hltp
            have a2 := KB.out.cellg hltj
            have z1 := KA.out.slot
            have z2 := KB.out.slot
            have hs : stepD cc2 pp p j Z = ⟨Z.rs.set p (max (gi Z.rs p) (cc2 - gi Z.cs j)), Z.cs⟩ := if_pos hpp
            rw [hs] at Hsucc
            clear hs hpp
            generalize hu : gi Z.rs p = u2 at *
            generalize hv : gi Z.cs j = v2 at *
            have Hu := Lib.hid hu
            clear hu hv
            go_wp2_with fail
            refine wp_region_ext_tail 14 (by kernel_rfl) (by kernel_rfl) ?_
            simp only [List.take_succ_cons, List.take_zero, List.drop_succ_cons, List.drop_zero]
            repeat (go_big_quiet_step (fail))
            refine wpQuiet_nil ?_
            intro w8 hX8
            have KA8 := Lib.hid (KA.out.ext hX8)
            have KB8 := Lib.hid (KB.out.ext hX8)
            have f1 := KA8.out.froz p
            have c1 := KA8.out.cellg hltp
            have z3 := KA8.out.slot
            have KA9 := KA8.out.store p (max u2 (cc2 - v2))
            have KB9 := KB8.out.other (g' := gA) (by omega) p (.int .i64 (max u2 (cc2 - v2)))
            have KA9 : Hid (OwnG _ 3 w.heap.size gA n n (relP (tg c) (tg P) m X (p * m + (j + 1))).rs) := Lib.hid (by rw [Hsucc.out]; exact KA9)
            have KB9 : Hid (OwnG _ 3 w.heap.size gB m m (relP (tg c) (tg P) m X (p * m + (j + 1))).cs) := Lib.hid (by rw [Hsucc.out]; exact KB9)
            have hX9 : Ext w _ := (hX7.trans' hX8).setCell (p := ⟨gA, p, none⟩) z3.2.2 (.int .i64 (max u2 (cc2 - v2)))
            rw [Hu.out] at c1
            clear KA8 KB8 Hsucc
            generalize max u2 (cc2 - v2) = mm at *
            go_wp2_with fail
            go_roundg g2
            case measure => omega
            case rel => exact ⟨j + 1, by omega, by go_num, hX9, KA9, KB9⟩
end Go.Proofs.Ytaidoaggmllcfaa
